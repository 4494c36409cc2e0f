/- The contract of the shot's text 'fold': one change played on a list of one's own. -/
import Derived.Test.YtfohedaadncefaaDoorHbF3
import Derived.Test.YtfohedaadncefaaDoorHbD8
namespace Go.Proofs.YtfohedaadncefaaDoor.HBT
open Go Go.Proofs.YtfohedaadncefaaDoor.HB Go.RowKit
set_option maxRecDepth 8000

theorem insert_nil (g1 : Nat) (x : Sn) : FnSpec C 76 [.nils, .int .i64 (0 : Nat), .sb 0 g1 1 3 0 1] [(g1, .row 50 3 1 [enc x])]
    (fun r L' => ∃ g' C', r = .sb 0 g' C' 3 0 1 ∧ L' = [(g', .row 50 3 C' [enc x])]) := by
  refine FnSpec.start C_ok Tryd.func76 rfl rfl Tryd.ntmps76 ?_
  repeat (first | refine Ops.go ?_ | refine And.intro rfl ?_ | refine And.intro (Nat.le_of_ble_eq_true rfl) ?_ | refine And.intro (Int.natCast_nonneg _) ?_ | refine fun (_ : Nat) => ?_ | refine Ord.go ?_ | refine Run.go rfl ?_ | refine Cont.go rfl ?_ | refine OrdP.go ?_)
  refine ⟨fun h => absurd h (by decide), fun _ => ?_⟩
  repeat (first | refine Ops.go ?_ | refine And.intro rfl ?_ | refine And.intro (Nat.le_of_ble_eq_true rfl) ?_ | refine And.intro (Int.natCast_nonneg _) ?_ | refine fun (_ : Nat) => ?_ | refine Ord.go ?_ | refine Run.go rfl ?_ | refine Cont.go rfl ?_ | refine OrdP.go ?_)
  refine ⟨fun _ => ?_, fun h => absurd rfl h⟩
  repeat (first | refine Ops.go ?_ | refine And.intro rfl ?_ | refine And.intro (Nat.le_of_ble_eq_true rfl) ?_ | refine And.intro (Int.natCast_nonneg _) ?_ | refine fun (_ : Nat) => ?_ | refine Ord.go ?_ | refine Run.go rfl ?_ | refine Cont.go rfl ?_ | refine OrdP.go ?_)
  refine ⟨fun h => absurd h (by simp), fun _ => ?_⟩
  repeat (first | refine Ops.go ?_ | refine And.intro rfl ?_ | refine And.intro (Nat.le_of_ble_eq_true rfl) ?_ | refine And.intro (Int.natCast_nonneg _) ?_ | refine fun (_ : Nat) => ?_ | refine Ord.go ?_ | refine Run.go rfl ?_ | refine Cont.go rfl ?_ | refine OrdP.go ?_)
  exact ⟨_, _, FinOk.keep _ [1] (Sub.slsb _ 0 _ _ _ _) (by decide) rfl, _, _, rfl, rfl⟩

/-- A list of nodes of one's own, made or not. -/
def LN (k : Nat) (l : List Sn) (v : AV) (g : Nat) (o : AObj) : Prop := (l = [] ∧ v = .nils ∧ o = .dead) ∨ (∃ Cp, v = .sl k g Cp l.length ∧ o = .row 50 3 Cp (l.map enc))
def nodeC (kd : Int) (c : Ch) : Sn := if kd = 2 then ⟨c.p, ⟨#[]⟩, 0⟩ else ⟨c.p, c.d, c.v⟩
def fitC (c : Ch) : Prop := c.d.size ≤ 64 ∧ 0 ≤ c.v ∧ c.v ≤ 2147483647
instance (c : Ch) : Decidable (fitC c) := inferInstanceAs (Decidable (_ ∧ _ ∧ _))
/-- One change played: where the place is or would be, whether it is there, whether its parent is. -/
noncomputable def stepP (kd : Int) (pl : ByteArray) (l : List Sn) (c : Ch) (i : Nat) (b rb : Bool) : Option (List Sn) :=
  if c.k = 1 then (if b = true ∨ (c.p ≠ pl ∧ rb = false) ∨ ¬ fitC c ∨ l.length = 64 then none else some (l.take i ++ nodeC kd c :: l.drop i))
  else if c.k = 2 then (if b = false ∨ ¬ fitC c then none else some (l.set i (nodeC kd c)))
  else if b = false ∨ c.p = slash then none
  else if (match l[i + 1]? with | some y => decide (belowB y.p c.p) | none => false) = true then none
  else some (l.take i ++ l.drop (i + 1))
def StepQ : Option (List Sn) → AV → AHeap → Prop
  | none, r, L' => r = .tuple [.nils, .bool false] ∧ L' = []
  | some l', r, L' => ∃ g v o, LN 0 l' v g o ∧ r = .tuple [v, .bool true] ∧ L' = [(g, o)]

set_option maxHeartbeats 8000000 in
theorem fold_own (st : Int) (pl : ByteArray) (kd : Int) (g Cp : Nat) (l : List Sn) (c : Ch) (hm : l.length ≤ 1000) (hps : ∀ x ∈ l, x.p.size ≤ 9223372036854775807) (j0 : Nat) (rb0 : Bool) (hf0 : Found l l.length (parentB c.p) j0 rb0) :
    FnSpec C 53 [shot st pl kd (.sl 0 g Cp l.length), encC c] [(g, .row 50 3 Cp (l.map enc))]
      (fun r L' => ∃ i b j rb, Found l l.length c.p i b ∧ Found l l.length (parentB c.p) j rb ∧ StepQ (stepP kd pl l c i b rb) r L') := by
  have hh := fun p => has_spec l l.length (Nat.le_refl _) hm p hps
  have fitY : fitC c → FnSpec C 31 [.str c.d, .int .i64 c.v] [] (fun r L' => r = .bool true ∧ L' = []) := fun h => by
    have := fits_spec c.d c.v
    rwa [show decide (c.d.size ≤ 64 ∧ 0 ≤ c.v ∧ c.v ≤ 2147483647) = true from decide_eq_true h] at this
  have fitN : ¬ fitC c → FnSpec C 31 [.str c.d, .int .i64 c.v] [] (fun r L' => r = .bool false ∧ L' = []) := fun h => by
    have := fits_spec c.d c.v
    rwa [show decide (c.d.size ≤ 64 ∧ 0 ≤ c.v ∧ c.v ≤ 2147483647) = false from decide_eq_false h] at this
  have hlen : l.length ≤ (l.map enc).length := by rw [List.length_map]; exact Nat.le_refl _
  refine FnSpec.start C_ok Tryd.func53 rfl rfl Tryd.ntmps53 ?_
  repeat (first | refine Ops.go ?_ | refine And.intro rfl ?_ | refine And.intro (Nat.le_of_ble_eq_true rfl) ?_ | refine And.intro (Int.natCast_nonneg _) ?_ | refine fun (_ : Nat) => ?_ | refine Ord.go ?_ | refine Run.go rfl ?_ | refine Cont.go rfl ?_ | refine OrdP.go ?_)
  refine ACall.lend [rdo l l.length, .str c.p] _ (.two (.row 0 g Cp _ 50 3 _ rfl hlen) (.same _)) (hh c.p) ?_
  rintro r L' ⟨⟨i, b, hf, rfl⟩, rfl⟩
  refine ⟨rfl, ?_⟩
  cases b
  · repeat (first | refine Ops.go ?_ | refine And.intro rfl ?_ | refine And.intro (Nat.le_of_ble_eq_true rfl) ?_ | refine And.intro (Int.natCast_nonneg _) ?_ | refine fun (_ : Nat) => ?_ | refine Ord.go ?_ | refine Run.go rfl ?_ | refine Cont.go rfl ?_ | refine OrdP.go ?_)
    refine ⟨fun h => ?_, fun h => ?_⟩
    · have hx : nodeC kd c = ⟨c.p, ⟨#[]⟩, 0⟩ := if_pos h
      repeat (first | refine Ops.go ?_ | refine And.intro rfl ?_ | refine And.intro (Nat.le_of_ble_eq_true rfl) ?_ | refine And.intro (Int.natCast_nonneg _) ?_ | refine fun (_ : Nat) => ?_ | refine Ord.go ?_ | refine Run.go rfl ?_ | refine Cont.go rfl ?_ | refine OrdP.go ?_)
      refine ⟨fun hk => ?_, fun hk => ?_⟩
      · have hk : c.k = 1 := hk
        repeat (first | refine Ops.go ?_ | refine And.intro rfl ?_ | refine And.intro (Nat.le_of_ble_eq_true rfl) ?_ | refine And.intro (Int.natCast_nonneg _) ?_ | refine fun (_ : Nat) => ?_ | refine Ord.go ?_ | refine Run.go rfl ?_ | refine Cont.go rfl ?_ | refine OrdP.go ?_)
        refine ACall.ret (parent_spec c.p) ?_
        repeat (first | refine Ops.go ?_ | refine And.intro rfl ?_ | refine And.intro (Nat.le_of_ble_eq_true rfl) ?_ | refine And.intro (Int.natCast_nonneg _) ?_ | refine fun (_ : Nat) => ?_ | refine Ord.go ?_ | refine Run.go rfl ?_ | refine Cont.go rfl ?_ | refine OrdP.go ?_)
        refine ACall.lend [rdo l l.length, .str (parentB c.p)] _ (.two (.row 0 g Cp _ 50 3 _ rfl hlen) (.same _)) (hh (parentB c.p)) ?_
        rintro r L' ⟨⟨j, rb, hf2, rfl⟩, rfl⟩
        refine ⟨rfl, ?_⟩
        cases rb
        · repeat (first | refine Ops.go ?_ | refine And.intro rfl ?_ | refine And.intro (Nat.le_of_ble_eq_true rfl) ?_ | refine And.intro (Int.natCast_nonneg _) ?_ | refine fun (_ : Nat) => ?_ | refine Ord.go ?_ | refine Run.go rfl ?_ | refine Cont.go rfl ?_ | refine OrdP.go ?_)
          refine ⟨fun hp => ?_, fun hp => ?_⟩
          · have hp : c.p ≠ pl := hp
            repeat (first | refine Ops.go ?_ | refine And.intro rfl ?_ | refine And.intro (Nat.le_of_ble_eq_true rfl) ?_ | refine And.intro (Int.natCast_nonneg _) ?_ | refine fun (_ : Nat) => ?_ | refine Ord.go ?_ | refine Run.go rfl ?_ | refine Cont.go rfl ?_ | refine OrdP.go ?_)
            exact ⟨_, [], FinOk.drop _ _, i, false, j, false, hf, hf2, by rw [show stepP kd pl l c i false false = none from by unfold stepP; rw [if_pos hk, if_pos (.inr (.inl ⟨hp, rfl⟩))]]; exact ⟨rfl, rfl⟩⟩
          · have hp : ¬ c.p ≠ pl := hp
            repeat (first | refine Ops.go ?_ | refine And.intro rfl ?_ | refine And.intro (Nat.le_of_ble_eq_true rfl) ?_ | refine And.intro (Int.natCast_nonneg _) ?_ | refine fun (_ : Nat) => ?_ | refine Ord.go ?_ | refine Run.go rfl ?_ | refine Cont.go rfl ?_ | refine OrdP.go ?_)
            by_cases hfit : fitC c
            case neg =>
              refine ACall.ret (fitN hfit) ?_
              repeat (first | refine Ops.go ?_ | refine And.intro rfl ?_ | refine And.intro (Nat.le_of_ble_eq_true rfl) ?_ | refine And.intro (Int.natCast_nonneg _) ?_ | refine fun (_ : Nat) => ?_ | refine Ord.go ?_ | refine Run.go rfl ?_ | refine Cont.go rfl ?_ | refine OrdP.go ?_)
              exact ⟨_, [], FinOk.drop _ _, i, false, j, false, hf, hf2, by rw [show stepP kd pl l c i false false = none from by unfold stepP; rw [if_pos hk, if_pos (.inr (.inr (.inl hfit)))]]; exact ⟨rfl, rfl⟩⟩
            refine ACall.ret (fitY hfit) ?_
            repeat (first | refine Ops.go ?_ | refine And.intro rfl ?_ | refine And.intro (Nat.le_of_ble_eq_true rfl) ?_ | refine And.intro (Int.natCast_nonneg _) ?_ | refine fun (_ : Nat) => ?_ | refine Ord.go ?_ | refine Run.go rfl ?_ | refine Cont.go rfl ?_ | refine OrdP.go ?_)
            refine ⟨fun h64 => ?_, fun h64 => ?_⟩
            · have h64 : (l.length : Int) = 64 := h64
              repeat (first | refine Ops.go ?_ | refine And.intro rfl ?_ | refine And.intro (Nat.le_of_ble_eq_true rfl) ?_ | refine And.intro (Int.natCast_nonneg _) ?_ | refine fun (_ : Nat) => ?_ | refine Ord.go ?_ | refine Run.go rfl ?_ | refine Cont.go rfl ?_ | refine OrdP.go ?_)
              exact ⟨_, [], FinOk.drop _ _, i, false, j, false, hf, hf2, by rw [show stepP kd pl l c i false false = none from by unfold stepP; rw [if_pos hk, if_pos (.inr (.inr (.inr (by omega))))]]; exact ⟨rfl, rfl⟩⟩
            · have h64 : ¬ (l.length : Int) = 64 := h64
              repeat (first | refine Ops.go ?_ | refine And.intro rfl ?_ | refine And.intro (Nat.le_of_ble_eq_true rfl) ?_ | refine And.intro (Int.natCast_nonneg _) ?_ | refine fun (_ : Nat) => ?_ | refine Ord.go ?_ | refine Run.go rfl ?_ | refine Cont.go rfl ?_ | refine OrdP.go ?_)
              refine ACall.sel [0, 4] (by decide) [.sb 0 g Cp 3 0 l.length, .int .i64 i, .sb 1 _ 1 3 0 1] _ (Subs.three (Sub.slsb _ _ _ _ _ _) (Sub.refl _) (Sub.slsb _ _ _ _ _ _)) (insert_own g Cp _ l i ⟨c.p, ⟨#[]⟩, 0⟩ hf.1 hm) ?_
              rintro r L' ⟨g', C', rfl, rfl⟩
              refine ⟨_, Sub.sbsl _ 0 _ _ _ _, ?_⟩
              repeat (first | refine Ops.go ?_ | refine And.intro rfl ?_ | refine And.intro (Nat.le_of_ble_eq_true rfl) ?_ | refine And.intro (Int.natCast_nonneg _) ?_ | refine fun (_ : Nat) => ?_ | refine Ord.go ?_ | refine Run.go rfl ?_ | refine Cont.go rfl ?_ | refine OrdP.go ?_)
              have e : stepP kd pl l c i false false = some (l.take i ++ ⟨c.p, ⟨#[]⟩, 0⟩ :: l.drop i) := by
                unfold stepP
                rw [if_pos hk, if_neg (by rintro (h | h | h | h); exact absurd h (by decide); exact hp h.1; exact h hfit; exact h64 (by omega)), hx]
              have el : (l.take i ++ ⟨c.p, ⟨#[]⟩, 0⟩ :: l.drop i).length = l.length + 1 := by simp; have := hf.1; omega
              exact ⟨.tuple [.sl 0 g' C' (l.length + 1), .bool true], _, FinOk.keep _ [0] (Sub.tuples ⟨Sub.sl _ 0 _ _ _, Sub.refl _, trivial⟩) (by decide) rfl, i, false, j, false, hf, hf2, by rw [e]; exact ⟨g', .sl 0 g' C' (l.length + 1), _, .inr ⟨C', by rw [el], rfl⟩, rfl, rfl⟩⟩
        · repeat (first | refine Ops.go ?_ | refine And.intro rfl ?_ | refine And.intro (Nat.le_of_ble_eq_true rfl) ?_ | refine And.intro (Int.natCast_nonneg _) ?_ | refine fun (_ : Nat) => ?_ | refine Ord.go ?_ | refine Run.go rfl ?_ | refine Cont.go rfl ?_ | refine OrdP.go ?_)
          refine ⟨fun hp => ?_, fun hp => ?_⟩
          · repeat (first | refine Ops.go ?_ | refine And.intro rfl ?_ | refine And.intro (Nat.le_of_ble_eq_true rfl) ?_ | refine And.intro (Int.natCast_nonneg _) ?_ | refine fun (_ : Nat) => ?_ | refine Ord.go ?_ | refine Run.go rfl ?_ | refine Cont.go rfl ?_ | refine OrdP.go ?_)
            by_cases hfit : fitC c
            case neg =>
              refine ACall.ret (fitN hfit) ?_
              repeat (first | refine Ops.go ?_ | refine And.intro rfl ?_ | refine And.intro (Nat.le_of_ble_eq_true rfl) ?_ | refine And.intro (Int.natCast_nonneg _) ?_ | refine fun (_ : Nat) => ?_ | refine Ord.go ?_ | refine Run.go rfl ?_ | refine Cont.go rfl ?_ | refine OrdP.go ?_)
              exact ⟨_, [], FinOk.drop _ _, i, false, j, true, hf, hf2, by rw [show stepP kd pl l c i false true = none from by unfold stepP; rw [if_pos hk, if_pos (.inr (.inr (.inl hfit)))]]; exact ⟨rfl, rfl⟩⟩
            refine ACall.ret (fitY hfit) ?_
            repeat (first | refine Ops.go ?_ | refine And.intro rfl ?_ | refine And.intro (Nat.le_of_ble_eq_true rfl) ?_ | refine And.intro (Int.natCast_nonneg _) ?_ | refine fun (_ : Nat) => ?_ | refine Ord.go ?_ | refine Run.go rfl ?_ | refine Cont.go rfl ?_ | refine OrdP.go ?_)
            refine ⟨fun h64 => ?_, fun h64 => ?_⟩
            · have h64 : (l.length : Int) = 64 := h64
              repeat (first | refine Ops.go ?_ | refine And.intro rfl ?_ | refine And.intro (Nat.le_of_ble_eq_true rfl) ?_ | refine And.intro (Int.natCast_nonneg _) ?_ | refine fun (_ : Nat) => ?_ | refine Ord.go ?_ | refine Run.go rfl ?_ | refine Cont.go rfl ?_ | refine OrdP.go ?_)
              exact ⟨_, [], FinOk.drop _ _, i, false, j, true, hf, hf2, by rw [show stepP kd pl l c i false true = none from by unfold stepP; rw [if_pos hk, if_pos (.inr (.inr (.inr (by omega))))]]; exact ⟨rfl, rfl⟩⟩
            · have h64 : ¬ (l.length : Int) = 64 := h64
              repeat (first | refine Ops.go ?_ | refine And.intro rfl ?_ | refine And.intro (Nat.le_of_ble_eq_true rfl) ?_ | refine And.intro (Int.natCast_nonneg _) ?_ | refine fun (_ : Nat) => ?_ | refine Ord.go ?_ | refine Run.go rfl ?_ | refine Cont.go rfl ?_ | refine OrdP.go ?_)
              refine ACall.sel [0, 4] (by decide) [.sb 0 g Cp 3 0 l.length, .int .i64 i, .sb 1 _ 1 3 0 1] _ (Subs.three (Sub.slsb _ _ _ _ _ _) (Sub.refl _) (Sub.slsb _ _ _ _ _ _)) (insert_own g Cp _ l i ⟨c.p, ⟨#[]⟩, 0⟩ hf.1 hm) ?_
              rintro r L' ⟨g', C', rfl, rfl⟩
              refine ⟨_, Sub.sbsl _ 0 _ _ _ _, ?_⟩
              repeat (first | refine Ops.go ?_ | refine And.intro rfl ?_ | refine And.intro (Nat.le_of_ble_eq_true rfl) ?_ | refine And.intro (Int.natCast_nonneg _) ?_ | refine fun (_ : Nat) => ?_ | refine Ord.go ?_ | refine Run.go rfl ?_ | refine Cont.go rfl ?_ | refine OrdP.go ?_)
              have e : stepP kd pl l c i false true = some (l.take i ++ ⟨c.p, ⟨#[]⟩, 0⟩ :: l.drop i) := by
                unfold stepP
                rw [if_pos hk, if_neg (by rintro (h | h | h | h); exact absurd h (by decide); exact absurd h.2 (by decide); exact h hfit; exact h64 (by omega)), hx]
              have el : (l.take i ++ ⟨c.p, ⟨#[]⟩, 0⟩ :: l.drop i).length = l.length + 1 := by simp; have := hf.1; omega
              exact ⟨.tuple [.sl 0 g' C' (l.length + 1), .bool true], _, FinOk.keep _ [0] (Sub.tuples ⟨Sub.sl _ 0 _ _ _, Sub.refl _, trivial⟩) (by decide) rfl, i, false, j, true, hf, hf2, by rw [e]; exact ⟨g', .sl 0 g' C' (l.length + 1), _, .inr ⟨C', by rw [el], rfl⟩, rfl, rfl⟩⟩
          · repeat (first | refine Ops.go ?_ | refine And.intro rfl ?_ | refine And.intro (Nat.le_of_ble_eq_true rfl) ?_ | refine And.intro (Int.natCast_nonneg _) ?_ | refine fun (_ : Nat) => ?_ | refine Ord.go ?_ | refine Run.go rfl ?_ | refine Cont.go rfl ?_ | refine OrdP.go ?_)
            by_cases hfit : fitC c
            case neg =>
              refine ACall.ret (fitN hfit) ?_
              repeat (first | refine Ops.go ?_ | refine And.intro rfl ?_ | refine And.intro (Nat.le_of_ble_eq_true rfl) ?_ | refine And.intro (Int.natCast_nonneg _) ?_ | refine fun (_ : Nat) => ?_ | refine Ord.go ?_ | refine Run.go rfl ?_ | refine Cont.go rfl ?_ | refine OrdP.go ?_)
              exact ⟨_, [], FinOk.drop _ _, i, false, j, true, hf, hf2, by rw [show stepP kd pl l c i false true = none from by unfold stepP; rw [if_pos hk, if_pos (.inr (.inr (.inl hfit)))]]; exact ⟨rfl, rfl⟩⟩
            refine ACall.ret (fitY hfit) ?_
            repeat (first | refine Ops.go ?_ | refine And.intro rfl ?_ | refine And.intro (Nat.le_of_ble_eq_true rfl) ?_ | refine And.intro (Int.natCast_nonneg _) ?_ | refine fun (_ : Nat) => ?_ | refine Ord.go ?_ | refine Run.go rfl ?_ | refine Cont.go rfl ?_ | refine OrdP.go ?_)
            refine ⟨fun h64 => ?_, fun h64 => ?_⟩
            · have h64 : (l.length : Int) = 64 := h64
              repeat (first | refine Ops.go ?_ | refine And.intro rfl ?_ | refine And.intro (Nat.le_of_ble_eq_true rfl) ?_ | refine And.intro (Int.natCast_nonneg _) ?_ | refine fun (_ : Nat) => ?_ | refine Ord.go ?_ | refine Run.go rfl ?_ | refine Cont.go rfl ?_ | refine OrdP.go ?_)
              exact ⟨_, [], FinOk.drop _ _, i, false, j, true, hf, hf2, by rw [show stepP kd pl l c i false true = none from by unfold stepP; rw [if_pos hk, if_pos (.inr (.inr (.inr (by omega))))]]; exact ⟨rfl, rfl⟩⟩
            · have h64 : ¬ (l.length : Int) = 64 := h64
              repeat (first | refine Ops.go ?_ | refine And.intro rfl ?_ | refine And.intro (Nat.le_of_ble_eq_true rfl) ?_ | refine And.intro (Int.natCast_nonneg _) ?_ | refine fun (_ : Nat) => ?_ | refine Ord.go ?_ | refine Run.go rfl ?_ | refine Cont.go rfl ?_ | refine OrdP.go ?_)
              refine ACall.sel [0, 4] (by decide) [.sb 0 g Cp 3 0 l.length, .int .i64 i, .sb 1 _ 1 3 0 1] _ (Subs.three (Sub.slsb _ _ _ _ _ _) (Sub.refl _) (Sub.slsb _ _ _ _ _ _)) (insert_own g Cp _ l i ⟨c.p, ⟨#[]⟩, 0⟩ hf.1 hm) ?_
              rintro r L' ⟨g', C', rfl, rfl⟩
              refine ⟨_, Sub.sbsl _ 0 _ _ _ _, ?_⟩
              repeat (first | refine Ops.go ?_ | refine And.intro rfl ?_ | refine And.intro (Nat.le_of_ble_eq_true rfl) ?_ | refine And.intro (Int.natCast_nonneg _) ?_ | refine fun (_ : Nat) => ?_ | refine Ord.go ?_ | refine Run.go rfl ?_ | refine Cont.go rfl ?_ | refine OrdP.go ?_)
              have e : stepP kd pl l c i false true = some (l.take i ++ ⟨c.p, ⟨#[]⟩, 0⟩ :: l.drop i) := by
                unfold stepP
                rw [if_pos hk, if_neg (by rintro (h | h | h | h); exact absurd h (by decide); exact absurd h.2 (by decide); exact h hfit; exact h64 (by omega)), hx]
              have el : (l.take i ++ ⟨c.p, ⟨#[]⟩, 0⟩ :: l.drop i).length = l.length + 1 := by simp; have := hf.1; omega
              exact ⟨.tuple [.sl 0 g' C' (l.length + 1), .bool true], _, FinOk.keep _ [0] (Sub.tuples ⟨Sub.sl _ 0 _ _ _, Sub.refl _, trivial⟩) (by decide) rfl, i, false, j, true, hf, hf2, by rw [e]; exact ⟨g', .sl 0 g' C' (l.length + 1), _, .inr ⟨C', by rw [el], rfl⟩, rfl, rfl⟩⟩
      have hk1 : ¬ c.k = 1 := hk
      repeat (first | refine Ops.go ?_ | refine And.intro rfl ?_ | refine And.intro (Nat.le_of_ble_eq_true rfl) ?_ | refine And.intro (Int.natCast_nonneg _) ?_ | refine fun (_ : Nat) => ?_ | refine Ord.go ?_ | refine Run.go rfl ?_ | refine Cont.go rfl ?_ | refine OrdP.go ?_)
      refine ⟨fun hk => ?_, fun hk => ?_⟩
      · have hk2 : c.k = 2 := hk
        repeat (first | refine Ops.go ?_ | refine And.intro rfl ?_ | refine And.intro (Nat.le_of_ble_eq_true rfl) ?_ | refine And.intro (Int.natCast_nonneg _) ?_ | refine fun (_ : Nat) => ?_ | refine Ord.go ?_ | refine Run.go rfl ?_ | refine Cont.go rfl ?_ | refine OrdP.go ?_)
        exact ⟨_, [], FinOk.drop _ _, i, false, j0, rb0, hf, hf0, by rw [show stepP kd pl l c i false rb0 = none from by unfold stepP; rw [if_neg hk1, if_pos hk2, if_pos (.inl rfl)]]; exact ⟨rfl, rfl⟩⟩
      · have hk2 : ¬ c.k = 2 := hk
        repeat (first | refine Ops.go ?_ | refine And.intro rfl ?_ | refine And.intro (Nat.le_of_ble_eq_true rfl) ?_ | refine And.intro (Int.natCast_nonneg _) ?_ | refine fun (_ : Nat) => ?_ | refine Ord.go ?_ | refine Run.go rfl ?_ | refine Cont.go rfl ?_ | refine OrdP.go ?_)
        exact ⟨_, [], FinOk.drop _ _, i, false, j0, rb0, hf, hf0, by rw [show stepP kd pl l c i false rb0 = none from by unfold stepP; rw [if_neg hk1, if_neg hk2, if_pos (.inl rfl)]]; exact ⟨rfl, rfl⟩⟩
    · have hx : nodeC kd c = ⟨c.p, c.d, c.v⟩ := if_neg h
      repeat (first | refine Ops.go ?_ | refine And.intro rfl ?_ | refine And.intro (Nat.le_of_ble_eq_true rfl) ?_ | refine And.intro (Int.natCast_nonneg _) ?_ | refine fun (_ : Nat) => ?_ | refine Ord.go ?_ | refine Run.go rfl ?_ | refine Cont.go rfl ?_ | refine OrdP.go ?_)
      refine ⟨fun hk => ?_, fun hk => ?_⟩
      · have hk : c.k = 1 := hk
        repeat (first | refine Ops.go ?_ | refine And.intro rfl ?_ | refine And.intro (Nat.le_of_ble_eq_true rfl) ?_ | refine And.intro (Int.natCast_nonneg _) ?_ | refine fun (_ : Nat) => ?_ | refine Ord.go ?_ | refine Run.go rfl ?_ | refine Cont.go rfl ?_ | refine OrdP.go ?_)
        refine ACall.ret (parent_spec c.p) ?_
        repeat (first | refine Ops.go ?_ | refine And.intro rfl ?_ | refine And.intro (Nat.le_of_ble_eq_true rfl) ?_ | refine And.intro (Int.natCast_nonneg _) ?_ | refine fun (_ : Nat) => ?_ | refine Ord.go ?_ | refine Run.go rfl ?_ | refine Cont.go rfl ?_ | refine OrdP.go ?_)
        refine ACall.lend [rdo l l.length, .str (parentB c.p)] _ (.two (.row 0 g Cp _ 50 3 _ rfl hlen) (.same _)) (hh (parentB c.p)) ?_
        rintro r L' ⟨⟨j, rb, hf2, rfl⟩, rfl⟩
        refine ⟨rfl, ?_⟩
        cases rb
        · repeat (first | refine Ops.go ?_ | refine And.intro rfl ?_ | refine And.intro (Nat.le_of_ble_eq_true rfl) ?_ | refine And.intro (Int.natCast_nonneg _) ?_ | refine fun (_ : Nat) => ?_ | refine Ord.go ?_ | refine Run.go rfl ?_ | refine Cont.go rfl ?_ | refine OrdP.go ?_)
          refine ⟨fun hp => ?_, fun hp => ?_⟩
          · have hp : c.p ≠ pl := hp
            repeat (first | refine Ops.go ?_ | refine And.intro rfl ?_ | refine And.intro (Nat.le_of_ble_eq_true rfl) ?_ | refine And.intro (Int.natCast_nonneg _) ?_ | refine fun (_ : Nat) => ?_ | refine Ord.go ?_ | refine Run.go rfl ?_ | refine Cont.go rfl ?_ | refine OrdP.go ?_)
            exact ⟨_, [], FinOk.drop _ _, i, false, j, false, hf, hf2, by rw [show stepP kd pl l c i false false = none from by unfold stepP; rw [if_pos hk, if_pos (.inr (.inl ⟨hp, rfl⟩))]]; exact ⟨rfl, rfl⟩⟩
          · have hp : ¬ c.p ≠ pl := hp
            repeat (first | refine Ops.go ?_ | refine And.intro rfl ?_ | refine And.intro (Nat.le_of_ble_eq_true rfl) ?_ | refine And.intro (Int.natCast_nonneg _) ?_ | refine fun (_ : Nat) => ?_ | refine Ord.go ?_ | refine Run.go rfl ?_ | refine Cont.go rfl ?_ | refine OrdP.go ?_)
            by_cases hfit : fitC c
            case neg =>
              refine ACall.ret (fitN hfit) ?_
              repeat (first | refine Ops.go ?_ | refine And.intro rfl ?_ | refine And.intro (Nat.le_of_ble_eq_true rfl) ?_ | refine And.intro (Int.natCast_nonneg _) ?_ | refine fun (_ : Nat) => ?_ | refine Ord.go ?_ | refine Run.go rfl ?_ | refine Cont.go rfl ?_ | refine OrdP.go ?_)
              exact ⟨_, [], FinOk.drop _ _, i, false, j, false, hf, hf2, by rw [show stepP kd pl l c i false false = none from by unfold stepP; rw [if_pos hk, if_pos (.inr (.inr (.inl hfit)))]]; exact ⟨rfl, rfl⟩⟩
            refine ACall.ret (fitY hfit) ?_
            repeat (first | refine Ops.go ?_ | refine And.intro rfl ?_ | refine And.intro (Nat.le_of_ble_eq_true rfl) ?_ | refine And.intro (Int.natCast_nonneg _) ?_ | refine fun (_ : Nat) => ?_ | refine Ord.go ?_ | refine Run.go rfl ?_ | refine Cont.go rfl ?_ | refine OrdP.go ?_)
            refine ⟨fun h64 => ?_, fun h64 => ?_⟩
            · have h64 : (l.length : Int) = 64 := h64
              repeat (first | refine Ops.go ?_ | refine And.intro rfl ?_ | refine And.intro (Nat.le_of_ble_eq_true rfl) ?_ | refine And.intro (Int.natCast_nonneg _) ?_ | refine fun (_ : Nat) => ?_ | refine Ord.go ?_ | refine Run.go rfl ?_ | refine Cont.go rfl ?_ | refine OrdP.go ?_)
              exact ⟨_, [], FinOk.drop _ _, i, false, j, false, hf, hf2, by rw [show stepP kd pl l c i false false = none from by unfold stepP; rw [if_pos hk, if_pos (.inr (.inr (.inr (by omega))))]]; exact ⟨rfl, rfl⟩⟩
            · have h64 : ¬ (l.length : Int) = 64 := h64
              repeat (first | refine Ops.go ?_ | refine And.intro rfl ?_ | refine And.intro (Nat.le_of_ble_eq_true rfl) ?_ | refine And.intro (Int.natCast_nonneg _) ?_ | refine fun (_ : Nat) => ?_ | refine Ord.go ?_ | refine Run.go rfl ?_ | refine Cont.go rfl ?_ | refine OrdP.go ?_)
              refine ACall.sel [0, 4] (by decide) [.sb 0 g Cp 3 0 l.length, .int .i64 i, .sb 1 _ 1 3 0 1] _ (Subs.three (Sub.slsb _ _ _ _ _ _) (Sub.refl _) (Sub.slsb _ _ _ _ _ _)) (insert_own g Cp _ l i ⟨c.p, c.d, c.v⟩ hf.1 hm) ?_
              rintro r L' ⟨g', C', rfl, rfl⟩
              refine ⟨_, Sub.sbsl _ 0 _ _ _ _, ?_⟩
              repeat (first | refine Ops.go ?_ | refine And.intro rfl ?_ | refine And.intro (Nat.le_of_ble_eq_true rfl) ?_ | refine And.intro (Int.natCast_nonneg _) ?_ | refine fun (_ : Nat) => ?_ | refine Ord.go ?_ | refine Run.go rfl ?_ | refine Cont.go rfl ?_ | refine OrdP.go ?_)
              have e : stepP kd pl l c i false false = some (l.take i ++ ⟨c.p, c.d, c.v⟩ :: l.drop i) := by
                unfold stepP
                rw [if_pos hk, if_neg (by rintro (h | h | h | h); exact absurd h (by decide); exact hp h.1; exact h hfit; exact h64 (by omega)), hx]
              have el : (l.take i ++ ⟨c.p, c.d, c.v⟩ :: l.drop i).length = l.length + 1 := by simp; have := hf.1; omega
              exact ⟨.tuple [.sl 0 g' C' (l.length + 1), .bool true], _, FinOk.keep _ [0] (Sub.tuples ⟨Sub.sl _ 0 _ _ _, Sub.refl _, trivial⟩) (by decide) rfl, i, false, j, false, hf, hf2, by rw [e]; exact ⟨g', .sl 0 g' C' (l.length + 1), _, .inr ⟨C', by rw [el], rfl⟩, rfl, rfl⟩⟩
        · repeat (first | refine Ops.go ?_ | refine And.intro rfl ?_ | refine And.intro (Nat.le_of_ble_eq_true rfl) ?_ | refine And.intro (Int.natCast_nonneg _) ?_ | refine fun (_ : Nat) => ?_ | refine Ord.go ?_ | refine Run.go rfl ?_ | refine Cont.go rfl ?_ | refine OrdP.go ?_)
          refine ⟨fun hp => ?_, fun hp => ?_⟩
          · repeat (first | refine Ops.go ?_ | refine And.intro rfl ?_ | refine And.intro (Nat.le_of_ble_eq_true rfl) ?_ | refine And.intro (Int.natCast_nonneg _) ?_ | refine fun (_ : Nat) => ?_ | refine Ord.go ?_ | refine Run.go rfl ?_ | refine Cont.go rfl ?_ | refine OrdP.go ?_)
            by_cases hfit : fitC c
            case neg =>
              refine ACall.ret (fitN hfit) ?_
              repeat (first | refine Ops.go ?_ | refine And.intro rfl ?_ | refine And.intro (Nat.le_of_ble_eq_true rfl) ?_ | refine And.intro (Int.natCast_nonneg _) ?_ | refine fun (_ : Nat) => ?_ | refine Ord.go ?_ | refine Run.go rfl ?_ | refine Cont.go rfl ?_ | refine OrdP.go ?_)
              exact ⟨_, [], FinOk.drop _ _, i, false, j, true, hf, hf2, by rw [show stepP kd pl l c i false true = none from by unfold stepP; rw [if_pos hk, if_pos (.inr (.inr (.inl hfit)))]]; exact ⟨rfl, rfl⟩⟩
            refine ACall.ret (fitY hfit) ?_
            repeat (first | refine Ops.go ?_ | refine And.intro rfl ?_ | refine And.intro (Nat.le_of_ble_eq_true rfl) ?_ | refine And.intro (Int.natCast_nonneg _) ?_ | refine fun (_ : Nat) => ?_ | refine Ord.go ?_ | refine Run.go rfl ?_ | refine Cont.go rfl ?_ | refine OrdP.go ?_)
            refine ⟨fun h64 => ?_, fun h64 => ?_⟩
            · have h64 : (l.length : Int) = 64 := h64
              repeat (first | refine Ops.go ?_ | refine And.intro rfl ?_ | refine And.intro (Nat.le_of_ble_eq_true rfl) ?_ | refine And.intro (Int.natCast_nonneg _) ?_ | refine fun (_ : Nat) => ?_ | refine Ord.go ?_ | refine Run.go rfl ?_ | refine Cont.go rfl ?_ | refine OrdP.go ?_)
              exact ⟨_, [], FinOk.drop _ _, i, false, j, true, hf, hf2, by rw [show stepP kd pl l c i false true = none from by unfold stepP; rw [if_pos hk, if_pos (.inr (.inr (.inr (by omega))))]]; exact ⟨rfl, rfl⟩⟩
            · have h64 : ¬ (l.length : Int) = 64 := h64
              repeat (first | refine Ops.go ?_ | refine And.intro rfl ?_ | refine And.intro (Nat.le_of_ble_eq_true rfl) ?_ | refine And.intro (Int.natCast_nonneg _) ?_ | refine fun (_ : Nat) => ?_ | refine Ord.go ?_ | refine Run.go rfl ?_ | refine Cont.go rfl ?_ | refine OrdP.go ?_)
              refine ACall.sel [0, 4] (by decide) [.sb 0 g Cp 3 0 l.length, .int .i64 i, .sb 1 _ 1 3 0 1] _ (Subs.three (Sub.slsb _ _ _ _ _ _) (Sub.refl _) (Sub.slsb _ _ _ _ _ _)) (insert_own g Cp _ l i ⟨c.p, c.d, c.v⟩ hf.1 hm) ?_
              rintro r L' ⟨g', C', rfl, rfl⟩
              refine ⟨_, Sub.sbsl _ 0 _ _ _ _, ?_⟩
              repeat (first | refine Ops.go ?_ | refine And.intro rfl ?_ | refine And.intro (Nat.le_of_ble_eq_true rfl) ?_ | refine And.intro (Int.natCast_nonneg _) ?_ | refine fun (_ : Nat) => ?_ | refine Ord.go ?_ | refine Run.go rfl ?_ | refine Cont.go rfl ?_ | refine OrdP.go ?_)
              have e : stepP kd pl l c i false true = some (l.take i ++ ⟨c.p, c.d, c.v⟩ :: l.drop i) := by
                unfold stepP
                rw [if_pos hk, if_neg (by rintro (h | h | h | h); exact absurd h (by decide); exact absurd h.2 (by decide); exact h hfit; exact h64 (by omega)), hx]
              have el : (l.take i ++ ⟨c.p, c.d, c.v⟩ :: l.drop i).length = l.length + 1 := by simp; have := hf.1; omega
              exact ⟨.tuple [.sl 0 g' C' (l.length + 1), .bool true], _, FinOk.keep _ [0] (Sub.tuples ⟨Sub.sl _ 0 _ _ _, Sub.refl _, trivial⟩) (by decide) rfl, i, false, j, true, hf, hf2, by rw [e]; exact ⟨g', .sl 0 g' C' (l.length + 1), _, .inr ⟨C', by rw [el], rfl⟩, rfl, rfl⟩⟩
          · repeat (first | refine Ops.go ?_ | refine And.intro rfl ?_ | refine And.intro (Nat.le_of_ble_eq_true rfl) ?_ | refine And.intro (Int.natCast_nonneg _) ?_ | refine fun (_ : Nat) => ?_ | refine Ord.go ?_ | refine Run.go rfl ?_ | refine Cont.go rfl ?_ | refine OrdP.go ?_)
            by_cases hfit : fitC c
            case neg =>
              refine ACall.ret (fitN hfit) ?_
              repeat (first | refine Ops.go ?_ | refine And.intro rfl ?_ | refine And.intro (Nat.le_of_ble_eq_true rfl) ?_ | refine And.intro (Int.natCast_nonneg _) ?_ | refine fun (_ : Nat) => ?_ | refine Ord.go ?_ | refine Run.go rfl ?_ | refine Cont.go rfl ?_ | refine OrdP.go ?_)
              exact ⟨_, [], FinOk.drop _ _, i, false, j, true, hf, hf2, by rw [show stepP kd pl l c i false true = none from by unfold stepP; rw [if_pos hk, if_pos (.inr (.inr (.inl hfit)))]]; exact ⟨rfl, rfl⟩⟩
            refine ACall.ret (fitY hfit) ?_
            repeat (first | refine Ops.go ?_ | refine And.intro rfl ?_ | refine And.intro (Nat.le_of_ble_eq_true rfl) ?_ | refine And.intro (Int.natCast_nonneg _) ?_ | refine fun (_ : Nat) => ?_ | refine Ord.go ?_ | refine Run.go rfl ?_ | refine Cont.go rfl ?_ | refine OrdP.go ?_)
            refine ⟨fun h64 => ?_, fun h64 => ?_⟩
            · have h64 : (l.length : Int) = 64 := h64
              repeat (first | refine Ops.go ?_ | refine And.intro rfl ?_ | refine And.intro (Nat.le_of_ble_eq_true rfl) ?_ | refine And.intro (Int.natCast_nonneg _) ?_ | refine fun (_ : Nat) => ?_ | refine Ord.go ?_ | refine Run.go rfl ?_ | refine Cont.go rfl ?_ | refine OrdP.go ?_)
              exact ⟨_, [], FinOk.drop _ _, i, false, j, true, hf, hf2, by rw [show stepP kd pl l c i false true = none from by unfold stepP; rw [if_pos hk, if_pos (.inr (.inr (.inr (by omega))))]]; exact ⟨rfl, rfl⟩⟩
            · have h64 : ¬ (l.length : Int) = 64 := h64
              repeat (first | refine Ops.go ?_ | refine And.intro rfl ?_ | refine And.intro (Nat.le_of_ble_eq_true rfl) ?_ | refine And.intro (Int.natCast_nonneg _) ?_ | refine fun (_ : Nat) => ?_ | refine Ord.go ?_ | refine Run.go rfl ?_ | refine Cont.go rfl ?_ | refine OrdP.go ?_)
              refine ACall.sel [0, 4] (by decide) [.sb 0 g Cp 3 0 l.length, .int .i64 i, .sb 1 _ 1 3 0 1] _ (Subs.three (Sub.slsb _ _ _ _ _ _) (Sub.refl _) (Sub.slsb _ _ _ _ _ _)) (insert_own g Cp _ l i ⟨c.p, c.d, c.v⟩ hf.1 hm) ?_
              rintro r L' ⟨g', C', rfl, rfl⟩
              refine ⟨_, Sub.sbsl _ 0 _ _ _ _, ?_⟩
              repeat (first | refine Ops.go ?_ | refine And.intro rfl ?_ | refine And.intro (Nat.le_of_ble_eq_true rfl) ?_ | refine And.intro (Int.natCast_nonneg _) ?_ | refine fun (_ : Nat) => ?_ | refine Ord.go ?_ | refine Run.go rfl ?_ | refine Cont.go rfl ?_ | refine OrdP.go ?_)
              have e : stepP kd pl l c i false true = some (l.take i ++ ⟨c.p, c.d, c.v⟩ :: l.drop i) := by
                unfold stepP
                rw [if_pos hk, if_neg (by rintro (h | h | h | h); exact absurd h (by decide); exact absurd h.2 (by decide); exact h hfit; exact h64 (by omega)), hx]
              have el : (l.take i ++ ⟨c.p, c.d, c.v⟩ :: l.drop i).length = l.length + 1 := by simp; have := hf.1; omega
              exact ⟨.tuple [.sl 0 g' C' (l.length + 1), .bool true], _, FinOk.keep _ [0] (Sub.tuples ⟨Sub.sl _ 0 _ _ _, Sub.refl _, trivial⟩) (by decide) rfl, i, false, j, true, hf, hf2, by rw [e]; exact ⟨g', .sl 0 g' C' (l.length + 1), _, .inr ⟨C', by rw [el], rfl⟩, rfl, rfl⟩⟩
      have hk1 : ¬ c.k = 1 := hk
      repeat (first | refine Ops.go ?_ | refine And.intro rfl ?_ | refine And.intro (Nat.le_of_ble_eq_true rfl) ?_ | refine And.intro (Int.natCast_nonneg _) ?_ | refine fun (_ : Nat) => ?_ | refine Ord.go ?_ | refine Run.go rfl ?_ | refine Cont.go rfl ?_ | refine OrdP.go ?_)
      refine ⟨fun hk => ?_, fun hk => ?_⟩
      · have hk2 : c.k = 2 := hk
        repeat (first | refine Ops.go ?_ | refine And.intro rfl ?_ | refine And.intro (Nat.le_of_ble_eq_true rfl) ?_ | refine And.intro (Int.natCast_nonneg _) ?_ | refine fun (_ : Nat) => ?_ | refine Ord.go ?_ | refine Run.go rfl ?_ | refine Cont.go rfl ?_ | refine OrdP.go ?_)
        exact ⟨_, [], FinOk.drop _ _, i, false, j0, rb0, hf, hf0, by rw [show stepP kd pl l c i false rb0 = none from by unfold stepP; rw [if_neg hk1, if_pos hk2, if_pos (.inl rfl)]]; exact ⟨rfl, rfl⟩⟩
      · have hk2 : ¬ c.k = 2 := hk
        repeat (first | refine Ops.go ?_ | refine And.intro rfl ?_ | refine And.intro (Nat.le_of_ble_eq_true rfl) ?_ | refine And.intro (Int.natCast_nonneg _) ?_ | refine fun (_ : Nat) => ?_ | refine Ord.go ?_ | refine Run.go rfl ?_ | refine Cont.go rfl ?_ | refine OrdP.go ?_)
        exact ⟨_, [], FinOk.drop _ _, i, false, j0, rb0, hf, hf0, by rw [show stepP kd pl l c i false rb0 = none from by unfold stepP; rw [if_neg hk1, if_neg hk2, if_pos (.inl rfl)]]; exact ⟨rfl, rfl⟩⟩
  · have hil : i < l.length := (hf.2.2.2.1 rfl).1
    obtain ⟨y, ey, _⟩ := (hf.2.2.2.1 rfl).2
    repeat (first | refine Ops.go ?_ | refine And.intro rfl ?_ | refine And.intro (Nat.le_of_ble_eq_true rfl) ?_ | refine And.intro (Int.natCast_nonneg _) ?_ | refine fun (_ : Nat) => ?_ | refine Ord.go ?_ | refine Run.go rfl ?_ | refine Cont.go rfl ?_ | refine OrdP.go ?_)
    refine ⟨fun h => ?_, fun h => ?_⟩
    · have hx : nodeC kd c = ⟨c.p, ⟨#[]⟩, 0⟩ := if_pos h
      repeat (first | refine Ops.go ?_ | refine And.intro rfl ?_ | refine And.intro (Nat.le_of_ble_eq_true rfl) ?_ | refine And.intro (Int.natCast_nonneg _) ?_ | refine fun (_ : Nat) => ?_ | refine Ord.go ?_ | refine Run.go rfl ?_ | refine Cont.go rfl ?_ | refine OrdP.go ?_)
      refine ⟨fun hk => ?_, fun hk => ?_⟩
      · have hk : c.k = 1 := hk
        repeat (first | refine Ops.go ?_ | refine And.intro rfl ?_ | refine And.intro (Nat.le_of_ble_eq_true rfl) ?_ | refine And.intro (Int.natCast_nonneg _) ?_ | refine fun (_ : Nat) => ?_ | refine Ord.go ?_ | refine Run.go rfl ?_ | refine Cont.go rfl ?_ | refine OrdP.go ?_)
        refine ACall.ret (parent_spec c.p) ?_
        repeat (first | refine Ops.go ?_ | refine And.intro rfl ?_ | refine And.intro (Nat.le_of_ble_eq_true rfl) ?_ | refine And.intro (Int.natCast_nonneg _) ?_ | refine fun (_ : Nat) => ?_ | refine Ord.go ?_ | refine Run.go rfl ?_ | refine Cont.go rfl ?_ | refine OrdP.go ?_)
        refine ACall.lend [rdo l l.length, .str (parentB c.p)] _ (.two (.row 0 g Cp _ 50 3 _ rfl hlen) (.same _)) (hh (parentB c.p)) ?_
        rintro r L' ⟨⟨j, rb, hf2, rfl⟩, rfl⟩
        refine ⟨rfl, ?_⟩
        repeat (first | refine Ops.go ?_ | refine And.intro rfl ?_ | refine And.intro (Nat.le_of_ble_eq_true rfl) ?_ | refine And.intro (Int.natCast_nonneg _) ?_ | refine fun (_ : Nat) => ?_ | refine Ord.go ?_ | refine Run.go rfl ?_ | refine Cont.go rfl ?_ | refine OrdP.go ?_)
        exact ⟨_, [], FinOk.drop _ _, i, true, j, rb, hf, hf2, by rw [show stepP kd pl l c i true rb = none from by unfold stepP; rw [if_pos hk, if_pos (.inl rfl)]]; exact ⟨rfl, rfl⟩⟩
      have hk1 : ¬ c.k = 1 := hk
      repeat (first | refine Ops.go ?_ | refine And.intro rfl ?_ | refine And.intro (Nat.le_of_ble_eq_true rfl) ?_ | refine And.intro (Int.natCast_nonneg _) ?_ | refine fun (_ : Nat) => ?_ | refine Ord.go ?_ | refine Run.go rfl ?_ | refine Cont.go rfl ?_ | refine OrdP.go ?_)
      refine ⟨fun hk => ?_, fun hk => ?_⟩
      · have hk2 : c.k = 2 := hk
        repeat (first | refine Ops.go ?_ | refine And.intro rfl ?_ | refine And.intro (Nat.le_of_ble_eq_true rfl) ?_ | refine And.intro (Int.natCast_nonneg _) ?_ | refine fun (_ : Nat) => ?_ | refine Ord.go ?_ | refine Run.go rfl ?_ | refine Cont.go rfl ?_ | refine OrdP.go ?_)
        by_cases hfit : fitC c
        case neg =>
          refine ACall.ret (fitN hfit) ?_
          repeat (first | refine Ops.go ?_ | refine And.intro rfl ?_ | refine And.intro (Nat.le_of_ble_eq_true rfl) ?_ | refine And.intro (Int.natCast_nonneg _) ?_ | refine fun (_ : Nat) => ?_ | refine Ord.go ?_ | refine Run.go rfl ?_ | refine Cont.go rfl ?_ | refine OrdP.go ?_)
          exact ⟨_, [], FinOk.drop _ _, i, true, j0, rb0, hf, hf0, by rw [show stepP kd pl l c i true rb0 = none from by unfold stepP; rw [if_neg hk1, if_pos hk2, if_pos (.inr hfit)]]; exact ⟨rfl, rfl⟩⟩
        refine ACall.ret (fitY hfit) ?_
        repeat (first | refine Ops.go ?_ | refine And.intro rfl ?_ | refine And.intro (Nat.le_of_ble_eq_true rfl) ?_ | refine And.intro (Int.natCast_nonneg _) ?_ | refine fun (_ : Nat) => ?_ | refine Ord.go ?_ | refine Run.go rfl ?_ | refine Cont.go rfl ?_ | refine OrdP.go ?_)
        refine ⟨by omega, ?_⟩
        repeat (first | refine Ops.go ?_ | refine And.intro rfl ?_ | refine And.intro (Nat.le_of_ble_eq_true rfl) ?_ | refine And.intro (Int.natCast_nonneg _) ?_ | refine fun (_ : Nat) => ?_ | refine Ord.go ?_ | refine Run.go rfl ?_ | refine Cont.go rfl ?_ | refine OrdP.go ?_)
        refine ⟨enc y, enc_at _ _ _ ey, ?_⟩
        repeat (first | refine Ops.go ?_ | refine And.intro rfl ?_ | refine And.intro (Nat.le_of_ble_eq_true rfl) ?_ | refine And.intro (Int.natCast_nonneg _) ?_ | refine fun (_ : Nat) => ?_ | refine Ord.go ?_ | refine Run.go rfl ?_ | refine Cont.go rfl ?_ | refine OrdP.go ?_)
        have e : stepP kd pl l c i true rb0 = some (l.set i ⟨c.p, ⟨#[]⟩, 0⟩) := by
          unfold stepP
          rw [if_neg hk1, if_pos hk2, if_neg (by rintro (h | h); exact absurd h (by decide); exact h hfit), hx]
        exact ⟨.tuple [.sl 0 g Cp l.length, .bool true], _, FinOk.keep _ [0] (Sub.tuples ⟨Sub.sl _ 0 _ _ _, Sub.refl _, trivial⟩) (by decide) rfl, i, true, j0, rb0, hf, hf0, by
          rw [e]
          exact ⟨g, .sl 0 g Cp l.length, _, .inr ⟨Cp, by rw [List.length_set], rfl⟩, rfl, congrArg (fun q => [(_, AObj.row 50 3 _ q)]) (show (l.map enc).set i (enc ⟨c.p, ⟨#[]⟩, 0⟩) = _ by rw [List.map_set])⟩⟩
      · have hk2 : ¬ c.k = 2 := hk
        repeat (first | refine Ops.go ?_ | refine And.intro rfl ?_ | refine And.intro (Nat.le_of_ble_eq_true rfl) ?_ | refine And.intro (Int.natCast_nonneg _) ?_ | refine fun (_ : Nat) => ?_ | refine Ord.go ?_ | refine Run.go rfl ?_ | refine Cont.go rfl ?_ | refine OrdP.go ?_)
        refine ⟨fun hs => ?_, fun hs => ?_⟩
        · have hs : c.p = slash := hs
          repeat (first | refine Ops.go ?_ | refine And.intro rfl ?_ | refine And.intro (Nat.le_of_ble_eq_true rfl) ?_ | refine And.intro (Int.natCast_nonneg _) ?_ | refine fun (_ : Nat) => ?_ | refine Ord.go ?_ | refine Run.go rfl ?_ | refine Cont.go rfl ?_ | refine OrdP.go ?_)
          exact ⟨_, [], FinOk.drop _ _, i, true, j0, rb0, hf, hf0, by rw [show stepP kd pl l c i true rb0 = none from by unfold stepP; rw [if_neg hk1, if_neg hk2, if_pos (.inr hs)]]; exact ⟨rfl, rfl⟩⟩
        have hs : ¬ c.p = slash := hs
        repeat (first | refine Ops.go ?_ | refine And.intro rfl ?_ | refine And.intro (Nat.le_of_ble_eq_true rfl) ?_ | refine And.intro (Int.natCast_nonneg _) ?_ | refine fun (_ : Nat) => ?_ | refine Ord.go ?_ | refine Run.go rfl ?_ | refine Cont.go rfl ?_ | refine OrdP.go ?_)
        refine fun r hr => ?_
        obtain rfl := add1 hr (by omega)
        repeat (first | refine Ops.go ?_ | refine And.intro rfl ?_ | refine And.intro (Nat.le_of_ble_eq_true rfl) ?_ | refine And.intro (Int.natCast_nonneg _) ?_ | refine fun (_ : Nat) => ?_ | refine Ord.go ?_ | refine Run.go rfl ?_ | refine Cont.go rfl ?_ | refine OrdP.go ?_)
        refine ⟨fun hn => ?_, fun hn => ?_⟩
        · have hn : ((i + 1 : Nat) : Int) < (l.length : Int) := hn
          obtain ⟨z, ez⟩ : ∃ z, l[i + 1]? = some z := ⟨l[i + 1], List.getElem?_eq_getElem (by omega)⟩
          repeat (first | refine Ops.go ?_ | refine And.intro rfl ?_ | refine And.intro (Nat.le_of_ble_eq_true rfl) ?_ | refine And.intro (Int.natCast_nonneg _) ?_ | refine fun (_ : Nat) => ?_ | refine Ord.go ?_ | refine Run.go rfl ?_ | refine Cont.go rfl ?_ | refine OrdP.go ?_)
          refine Run.drawn true [0, 1, 2, 3, 4, 5, 6, 7, 8, 9, 10, 11, 12, 13, 14] (by kernel_rfl) ?_
          repeat (first | refine Ops.go ?_ | refine And.intro rfl ?_ | refine And.intro (Nat.le_of_ble_eq_true rfl) ?_ | refine And.intro (Int.natCast_nonneg _) ?_ | refine fun (_ : Nat) => ?_ | refine Ord.go ?_ | refine Run.go rfl ?_ | refine Cont.go rfl ?_ | refine OrdP.go ?_)
          refine fun r hr => ?_
          obtain rfl := add1 hr (by omega)
          repeat (first | refine Ops.go ?_ | refine And.intro rfl ?_ | refine And.intro (Nat.le_of_ble_eq_true rfl) ?_ | refine And.intro (Int.natCast_nonneg _) ?_ | refine fun (_ : Nat) => ?_ | refine Ord.go ?_ | refine Run.go rfl ?_ | refine Cont.go rfl ?_ | refine OrdP.go ?_)
          refine ⟨by omega, ?_⟩
          repeat (first | refine Ops.go ?_ | refine And.intro rfl ?_ | refine And.intro (Nat.le_of_ble_eq_true rfl) ?_ | refine And.intro (Int.natCast_nonneg _) ?_ | refine fun (_ : Nat) => ?_ | refine Ord.go ?_ | refine Run.go rfl ?_ | refine Cont.go rfl ?_ | refine OrdP.go ?_)
          refine ⟨enc z, enc_at _ _ _ ez, ?_⟩
          repeat (first | refine Ops.go ?_ | refine And.intro rfl ?_ | refine And.intro (Nat.le_of_ble_eq_true rfl) ?_ | refine And.intro (Int.natCast_nonneg _) ?_ | refine fun (_ : Nat) => ?_ | refine Ord.go ?_ | refine Run.go rfl ?_ | refine Cont.go rfl ?_ | refine OrdP.go ?_)
          have c1 := isBelow_spec z.p c.p
          by_cases hb : belowB z.p c.p
          · rw [decide_eq_true hb] at c1
            refine ACallQ.ret c1 ?_
            repeat (first | refine Ops.go ?_ | refine And.intro rfl ?_ | refine And.intro (Nat.le_of_ble_eq_true rfl) ?_ | refine And.intro (Int.natCast_nonneg _) ?_ | refine fun (_ : Nat) => ?_ | refine Ord.go ?_ | refine Run.go rfl ?_ | refine Cont.go rfl ?_ | refine OrdP.go ?_)
            exact ⟨_, [], FinOk.drop _ _, i, true, j0, rb0, hf, hf0, by rw [show stepP kd pl l c i true rb0 = none from by unfold stepP; rw [if_neg hk1, if_neg hk2, if_neg (by rintro (h | h); exact absurd h (by decide); exact hs h), ez, if_pos (decide_eq_true hb)]]; exact ⟨rfl, rfl⟩⟩
          · rw [decide_eq_false hb] at c1
            refine ACallQ.ret c1 ?_
            repeat (first | refine Ops.go ?_ | refine And.intro rfl ?_ | refine And.intro (Nat.le_of_ble_eq_true rfl) ?_ | refine And.intro (Int.natCast_nonneg _) ?_ | refine fun (_ : Nat) => ?_ | refine Ord.go ?_ | refine Run.go rfl ?_ | refine Cont.go rfl ?_ | refine OrdP.go ?_)
            repeat (first | refine Ops.go ?_ | refine And.intro rfl ?_ | refine And.intro (Nat.le_of_ble_eq_true rfl) ?_ | refine And.intro (Int.natCast_nonneg _) ?_ | refine fun (_ : Nat) => ?_ | refine Ord.go ?_ | refine Run.go rfl ?_ | refine Cont.go rfl ?_ | refine OrdP.go ?_)
            refine fun r hr => ?_
            obtain rfl := add1 hr (by omega)
            repeat (first | refine Ops.go ?_ | refine And.intro rfl ?_ | refine And.intro (Nat.le_of_ble_eq_true rfl) ?_ | refine And.intro (Int.natCast_nonneg _) ?_ | refine fun (_ : Nat) => ?_ | refine Ord.go ?_ | refine Run.go rfl ?_ | refine Cont.go rfl ?_ | refine OrdP.go ?_)
            refine ACall.sel [0] (by decide) [.sb 0 g Cp 3 0 l.length, .int .i64 i, .int .i64 (i + 1 : Nat)] _ (Subs.three (Sub.slsb _ _ _ _ _ _) (Sub.refl _) (Sub.refl _)) (delete_own g Cp l i hil hm) ?_
            rintro r L' ⟨g', C', rfl, rfl⟩
            refine ⟨_, Sub.sbsl _ 0 _ _ _ _, ?_⟩
            repeat (first | refine Ops.go ?_ | refine And.intro rfl ?_ | refine And.intro (Nat.le_of_ble_eq_true rfl) ?_ | refine And.intro (Int.natCast_nonneg _) ?_ | refine fun (_ : Nat) => ?_ | refine Ord.go ?_ | refine Run.go rfl ?_ | refine Cont.go rfl ?_ | refine OrdP.go ?_)
            have e : stepP kd pl l c i true rb0 = some (l.take i ++ l.drop (i + 1)) := by
              unfold stepP
              rw [if_neg hk1, if_neg hk2, if_neg (by rintro (h | h); exact absurd h (by decide); exact hs h), if_neg (by rw [ez]; simpa using hb)]
            have el : (l.take i ++ l.drop (i + 1)).length = l.length - 1 := by simp; omega
            exact ⟨.tuple [.sl 0 g' C' (l.length - 1), .bool true], _, FinOk.keep _ [0] (Sub.tuples ⟨Sub.sl _ 0 _ _ _, Sub.refl _, trivial⟩) (by decide) rfl, i, true, j0, rb0, hf, hf0, by rw [e]; exact ⟨g', .sl 0 g' C' (l.length - 1), _, .inr ⟨C', by rw [el], rfl⟩, rfl, rfl⟩⟩
        · have hn : ¬ ((i + 1 : Nat) : Int) < (l.length : Int) := hn
          repeat (first | refine Ops.go ?_ | refine And.intro rfl ?_ | refine And.intro (Nat.le_of_ble_eq_true rfl) ?_ | refine And.intro (Int.natCast_nonneg _) ?_ | refine fun (_ : Nat) => ?_ | refine Ord.go ?_ | refine Run.go rfl ?_ | refine Cont.go rfl ?_ | refine OrdP.go ?_)
          refine fun r hr => ?_
          obtain rfl := add1 hr (by omega)
          repeat (first | refine Ops.go ?_ | refine And.intro rfl ?_ | refine And.intro (Nat.le_of_ble_eq_true rfl) ?_ | refine And.intro (Int.natCast_nonneg _) ?_ | refine fun (_ : Nat) => ?_ | refine Ord.go ?_ | refine Run.go rfl ?_ | refine Cont.go rfl ?_ | refine OrdP.go ?_)
          refine ACall.sel [0] (by decide) [.sb 0 g Cp 3 0 l.length, .int .i64 i, .int .i64 (i + 1 : Nat)] _ (Subs.three (Sub.slsb _ _ _ _ _ _) (Sub.refl _) (Sub.refl _)) (delete_own g Cp l i hil hm) ?_
          rintro r L' ⟨g', C', rfl, rfl⟩
          refine ⟨_, Sub.sbsl _ 0 _ _ _ _, ?_⟩
          repeat (first | refine Ops.go ?_ | refine And.intro rfl ?_ | refine And.intro (Nat.le_of_ble_eq_true rfl) ?_ | refine And.intro (Int.natCast_nonneg _) ?_ | refine fun (_ : Nat) => ?_ | refine Ord.go ?_ | refine Run.go rfl ?_ | refine Cont.go rfl ?_ | refine OrdP.go ?_)
          have e : stepP kd pl l c i true rb0 = some (l.take i ++ l.drop (i + 1)) := by
            unfold stepP
            rw [if_neg hk1, if_neg hk2, if_neg (by rintro (h | h); exact absurd h (by decide); exact hs h), if_neg (by rw [List.getElem?_eq_none (by omega)]; simp)]
          have el : (l.take i ++ l.drop (i + 1)).length = l.length - 1 := by simp; omega
          exact ⟨.tuple [.sl 0 g' C' (l.length - 1), .bool true], _, FinOk.keep _ [0] (Sub.tuples ⟨Sub.sl _ 0 _ _ _, Sub.refl _, trivial⟩) (by decide) rfl, i, true, j0, rb0, hf, hf0, by rw [e]; exact ⟨g', .sl 0 g' C' (l.length - 1), _, .inr ⟨C', by rw [el], rfl⟩, rfl, rfl⟩⟩
    · have hx : nodeC kd c = ⟨c.p, c.d, c.v⟩ := if_neg h
      repeat (first | refine Ops.go ?_ | refine And.intro rfl ?_ | refine And.intro (Nat.le_of_ble_eq_true rfl) ?_ | refine And.intro (Int.natCast_nonneg _) ?_ | refine fun (_ : Nat) => ?_ | refine Ord.go ?_ | refine Run.go rfl ?_ | refine Cont.go rfl ?_ | refine OrdP.go ?_)
      refine ⟨fun hk => ?_, fun hk => ?_⟩
      · have hk : c.k = 1 := hk
        repeat (first | refine Ops.go ?_ | refine And.intro rfl ?_ | refine And.intro (Nat.le_of_ble_eq_true rfl) ?_ | refine And.intro (Int.natCast_nonneg _) ?_ | refine fun (_ : Nat) => ?_ | refine Ord.go ?_ | refine Run.go rfl ?_ | refine Cont.go rfl ?_ | refine OrdP.go ?_)
        refine ACall.ret (parent_spec c.p) ?_
        repeat (first | refine Ops.go ?_ | refine And.intro rfl ?_ | refine And.intro (Nat.le_of_ble_eq_true rfl) ?_ | refine And.intro (Int.natCast_nonneg _) ?_ | refine fun (_ : Nat) => ?_ | refine Ord.go ?_ | refine Run.go rfl ?_ | refine Cont.go rfl ?_ | refine OrdP.go ?_)
        refine ACall.lend [rdo l l.length, .str (parentB c.p)] _ (.two (.row 0 g Cp _ 50 3 _ rfl hlen) (.same _)) (hh (parentB c.p)) ?_
        rintro r L' ⟨⟨j, rb, hf2, rfl⟩, rfl⟩
        refine ⟨rfl, ?_⟩
        repeat (first | refine Ops.go ?_ | refine And.intro rfl ?_ | refine And.intro (Nat.le_of_ble_eq_true rfl) ?_ | refine And.intro (Int.natCast_nonneg _) ?_ | refine fun (_ : Nat) => ?_ | refine Ord.go ?_ | refine Run.go rfl ?_ | refine Cont.go rfl ?_ | refine OrdP.go ?_)
        exact ⟨_, [], FinOk.drop _ _, i, true, j, rb, hf, hf2, by rw [show stepP kd pl l c i true rb = none from by unfold stepP; rw [if_pos hk, if_pos (.inl rfl)]]; exact ⟨rfl, rfl⟩⟩
      have hk1 : ¬ c.k = 1 := hk
      repeat (first | refine Ops.go ?_ | refine And.intro rfl ?_ | refine And.intro (Nat.le_of_ble_eq_true rfl) ?_ | refine And.intro (Int.natCast_nonneg _) ?_ | refine fun (_ : Nat) => ?_ | refine Ord.go ?_ | refine Run.go rfl ?_ | refine Cont.go rfl ?_ | refine OrdP.go ?_)
      refine ⟨fun hk => ?_, fun hk => ?_⟩
      · have hk2 : c.k = 2 := hk
        repeat (first | refine Ops.go ?_ | refine And.intro rfl ?_ | refine And.intro (Nat.le_of_ble_eq_true rfl) ?_ | refine And.intro (Int.natCast_nonneg _) ?_ | refine fun (_ : Nat) => ?_ | refine Ord.go ?_ | refine Run.go rfl ?_ | refine Cont.go rfl ?_ | refine OrdP.go ?_)
        by_cases hfit : fitC c
        case neg =>
          refine ACall.ret (fitN hfit) ?_
          repeat (first | refine Ops.go ?_ | refine And.intro rfl ?_ | refine And.intro (Nat.le_of_ble_eq_true rfl) ?_ | refine And.intro (Int.natCast_nonneg _) ?_ | refine fun (_ : Nat) => ?_ | refine Ord.go ?_ | refine Run.go rfl ?_ | refine Cont.go rfl ?_ | refine OrdP.go ?_)
          exact ⟨_, [], FinOk.drop _ _, i, true, j0, rb0, hf, hf0, by rw [show stepP kd pl l c i true rb0 = none from by unfold stepP; rw [if_neg hk1, if_pos hk2, if_pos (.inr hfit)]]; exact ⟨rfl, rfl⟩⟩
        refine ACall.ret (fitY hfit) ?_
        repeat (first | refine Ops.go ?_ | refine And.intro rfl ?_ | refine And.intro (Nat.le_of_ble_eq_true rfl) ?_ | refine And.intro (Int.natCast_nonneg _) ?_ | refine fun (_ : Nat) => ?_ | refine Ord.go ?_ | refine Run.go rfl ?_ | refine Cont.go rfl ?_ | refine OrdP.go ?_)
        refine ⟨by omega, ?_⟩
        repeat (first | refine Ops.go ?_ | refine And.intro rfl ?_ | refine And.intro (Nat.le_of_ble_eq_true rfl) ?_ | refine And.intro (Int.natCast_nonneg _) ?_ | refine fun (_ : Nat) => ?_ | refine Ord.go ?_ | refine Run.go rfl ?_ | refine Cont.go rfl ?_ | refine OrdP.go ?_)
        refine ⟨enc y, enc_at _ _ _ ey, ?_⟩
        repeat (first | refine Ops.go ?_ | refine And.intro rfl ?_ | refine And.intro (Nat.le_of_ble_eq_true rfl) ?_ | refine And.intro (Int.natCast_nonneg _) ?_ | refine fun (_ : Nat) => ?_ | refine Ord.go ?_ | refine Run.go rfl ?_ | refine Cont.go rfl ?_ | refine OrdP.go ?_)
        have e : stepP kd pl l c i true rb0 = some (l.set i ⟨c.p, c.d, c.v⟩) := by
          unfold stepP
          rw [if_neg hk1, if_pos hk2, if_neg (by rintro (h | h); exact absurd h (by decide); exact h hfit), hx]
        exact ⟨.tuple [.sl 0 g Cp l.length, .bool true], _, FinOk.keep _ [0] (Sub.tuples ⟨Sub.sl _ 0 _ _ _, Sub.refl _, trivial⟩) (by decide) rfl, i, true, j0, rb0, hf, hf0, by
          rw [e]
          exact ⟨g, .sl 0 g Cp l.length, _, .inr ⟨Cp, by rw [List.length_set], rfl⟩, rfl, congrArg (fun q => [(_, AObj.row 50 3 _ q)]) (show (l.map enc).set i (enc ⟨c.p, c.d, c.v⟩) = _ by rw [List.map_set])⟩⟩
      · have hk2 : ¬ c.k = 2 := hk
        repeat (first | refine Ops.go ?_ | refine And.intro rfl ?_ | refine And.intro (Nat.le_of_ble_eq_true rfl) ?_ | refine And.intro (Int.natCast_nonneg _) ?_ | refine fun (_ : Nat) => ?_ | refine Ord.go ?_ | refine Run.go rfl ?_ | refine Cont.go rfl ?_ | refine OrdP.go ?_)
        refine ⟨fun hs => ?_, fun hs => ?_⟩
        · have hs : c.p = slash := hs
          repeat (first | refine Ops.go ?_ | refine And.intro rfl ?_ | refine And.intro (Nat.le_of_ble_eq_true rfl) ?_ | refine And.intro (Int.natCast_nonneg _) ?_ | refine fun (_ : Nat) => ?_ | refine Ord.go ?_ | refine Run.go rfl ?_ | refine Cont.go rfl ?_ | refine OrdP.go ?_)
          exact ⟨_, [], FinOk.drop _ _, i, true, j0, rb0, hf, hf0, by rw [show stepP kd pl l c i true rb0 = none from by unfold stepP; rw [if_neg hk1, if_neg hk2, if_pos (.inr hs)]]; exact ⟨rfl, rfl⟩⟩
        have hs : ¬ c.p = slash := hs
        repeat (first | refine Ops.go ?_ | refine And.intro rfl ?_ | refine And.intro (Nat.le_of_ble_eq_true rfl) ?_ | refine And.intro (Int.natCast_nonneg _) ?_ | refine fun (_ : Nat) => ?_ | refine Ord.go ?_ | refine Run.go rfl ?_ | refine Cont.go rfl ?_ | refine OrdP.go ?_)
        refine fun r hr => ?_
        obtain rfl := add1 hr (by omega)
        repeat (first | refine Ops.go ?_ | refine And.intro rfl ?_ | refine And.intro (Nat.le_of_ble_eq_true rfl) ?_ | refine And.intro (Int.natCast_nonneg _) ?_ | refine fun (_ : Nat) => ?_ | refine Ord.go ?_ | refine Run.go rfl ?_ | refine Cont.go rfl ?_ | refine OrdP.go ?_)
        refine ⟨fun hn => ?_, fun hn => ?_⟩
        · have hn : ((i + 1 : Nat) : Int) < (l.length : Int) := hn
          obtain ⟨z, ez⟩ : ∃ z, l[i + 1]? = some z := ⟨l[i + 1], List.getElem?_eq_getElem (by omega)⟩
          repeat (first | refine Ops.go ?_ | refine And.intro rfl ?_ | refine And.intro (Nat.le_of_ble_eq_true rfl) ?_ | refine And.intro (Int.natCast_nonneg _) ?_ | refine fun (_ : Nat) => ?_ | refine Ord.go ?_ | refine Run.go rfl ?_ | refine Cont.go rfl ?_ | refine OrdP.go ?_)
          refine Run.drawn true [0, 1, 2, 3, 4, 5, 6, 7, 8, 9, 10, 11, 12, 13, 14] (by kernel_rfl) ?_
          repeat (first | refine Ops.go ?_ | refine And.intro rfl ?_ | refine And.intro (Nat.le_of_ble_eq_true rfl) ?_ | refine And.intro (Int.natCast_nonneg _) ?_ | refine fun (_ : Nat) => ?_ | refine Ord.go ?_ | refine Run.go rfl ?_ | refine Cont.go rfl ?_ | refine OrdP.go ?_)
          refine fun r hr => ?_
          obtain rfl := add1 hr (by omega)
          repeat (first | refine Ops.go ?_ | refine And.intro rfl ?_ | refine And.intro (Nat.le_of_ble_eq_true rfl) ?_ | refine And.intro (Int.natCast_nonneg _) ?_ | refine fun (_ : Nat) => ?_ | refine Ord.go ?_ | refine Run.go rfl ?_ | refine Cont.go rfl ?_ | refine OrdP.go ?_)
          refine ⟨by omega, ?_⟩
          repeat (first | refine Ops.go ?_ | refine And.intro rfl ?_ | refine And.intro (Nat.le_of_ble_eq_true rfl) ?_ | refine And.intro (Int.natCast_nonneg _) ?_ | refine fun (_ : Nat) => ?_ | refine Ord.go ?_ | refine Run.go rfl ?_ | refine Cont.go rfl ?_ | refine OrdP.go ?_)
          refine ⟨enc z, enc_at _ _ _ ez, ?_⟩
          repeat (first | refine Ops.go ?_ | refine And.intro rfl ?_ | refine And.intro (Nat.le_of_ble_eq_true rfl) ?_ | refine And.intro (Int.natCast_nonneg _) ?_ | refine fun (_ : Nat) => ?_ | refine Ord.go ?_ | refine Run.go rfl ?_ | refine Cont.go rfl ?_ | refine OrdP.go ?_)
          have c1 := isBelow_spec z.p c.p
          by_cases hb : belowB z.p c.p
          · rw [decide_eq_true hb] at c1
            refine ACallQ.ret c1 ?_
            repeat (first | refine Ops.go ?_ | refine And.intro rfl ?_ | refine And.intro (Nat.le_of_ble_eq_true rfl) ?_ | refine And.intro (Int.natCast_nonneg _) ?_ | refine fun (_ : Nat) => ?_ | refine Ord.go ?_ | refine Run.go rfl ?_ | refine Cont.go rfl ?_ | refine OrdP.go ?_)
            exact ⟨_, [], FinOk.drop _ _, i, true, j0, rb0, hf, hf0, by rw [show stepP kd pl l c i true rb0 = none from by unfold stepP; rw [if_neg hk1, if_neg hk2, if_neg (by rintro (h | h); exact absurd h (by decide); exact hs h), ez, if_pos (decide_eq_true hb)]]; exact ⟨rfl, rfl⟩⟩
          · rw [decide_eq_false hb] at c1
            refine ACallQ.ret c1 ?_
            repeat (first | refine Ops.go ?_ | refine And.intro rfl ?_ | refine And.intro (Nat.le_of_ble_eq_true rfl) ?_ | refine And.intro (Int.natCast_nonneg _) ?_ | refine fun (_ : Nat) => ?_ | refine Ord.go ?_ | refine Run.go rfl ?_ | refine Cont.go rfl ?_ | refine OrdP.go ?_)
            repeat (first | refine Ops.go ?_ | refine And.intro rfl ?_ | refine And.intro (Nat.le_of_ble_eq_true rfl) ?_ | refine And.intro (Int.natCast_nonneg _) ?_ | refine fun (_ : Nat) => ?_ | refine Ord.go ?_ | refine Run.go rfl ?_ | refine Cont.go rfl ?_ | refine OrdP.go ?_)
            refine fun r hr => ?_
            obtain rfl := add1 hr (by omega)
            repeat (first | refine Ops.go ?_ | refine And.intro rfl ?_ | refine And.intro (Nat.le_of_ble_eq_true rfl) ?_ | refine And.intro (Int.natCast_nonneg _) ?_ | refine fun (_ : Nat) => ?_ | refine Ord.go ?_ | refine Run.go rfl ?_ | refine Cont.go rfl ?_ | refine OrdP.go ?_)
            refine ACall.sel [0] (by decide) [.sb 0 g Cp 3 0 l.length, .int .i64 i, .int .i64 (i + 1 : Nat)] _ (Subs.three (Sub.slsb _ _ _ _ _ _) (Sub.refl _) (Sub.refl _)) (delete_own g Cp l i hil hm) ?_
            rintro r L' ⟨g', C', rfl, rfl⟩
            refine ⟨_, Sub.sbsl _ 0 _ _ _ _, ?_⟩
            repeat (first | refine Ops.go ?_ | refine And.intro rfl ?_ | refine And.intro (Nat.le_of_ble_eq_true rfl) ?_ | refine And.intro (Int.natCast_nonneg _) ?_ | refine fun (_ : Nat) => ?_ | refine Ord.go ?_ | refine Run.go rfl ?_ | refine Cont.go rfl ?_ | refine OrdP.go ?_)
            have e : stepP kd pl l c i true rb0 = some (l.take i ++ l.drop (i + 1)) := by
              unfold stepP
              rw [if_neg hk1, if_neg hk2, if_neg (by rintro (h | h); exact absurd h (by decide); exact hs h), if_neg (by rw [ez]; simpa using hb)]
            have el : (l.take i ++ l.drop (i + 1)).length = l.length - 1 := by simp; omega
            exact ⟨.tuple [.sl 0 g' C' (l.length - 1), .bool true], _, FinOk.keep _ [0] (Sub.tuples ⟨Sub.sl _ 0 _ _ _, Sub.refl _, trivial⟩) (by decide) rfl, i, true, j0, rb0, hf, hf0, by rw [e]; exact ⟨g', .sl 0 g' C' (l.length - 1), _, .inr ⟨C', by rw [el], rfl⟩, rfl, rfl⟩⟩
        · have hn : ¬ ((i + 1 : Nat) : Int) < (l.length : Int) := hn
          repeat (first | refine Ops.go ?_ | refine And.intro rfl ?_ | refine And.intro (Nat.le_of_ble_eq_true rfl) ?_ | refine And.intro (Int.natCast_nonneg _) ?_ | refine fun (_ : Nat) => ?_ | refine Ord.go ?_ | refine Run.go rfl ?_ | refine Cont.go rfl ?_ | refine OrdP.go ?_)
          refine fun r hr => ?_
          obtain rfl := add1 hr (by omega)
          repeat (first | refine Ops.go ?_ | refine And.intro rfl ?_ | refine And.intro (Nat.le_of_ble_eq_true rfl) ?_ | refine And.intro (Int.natCast_nonneg _) ?_ | refine fun (_ : Nat) => ?_ | refine Ord.go ?_ | refine Run.go rfl ?_ | refine Cont.go rfl ?_ | refine OrdP.go ?_)
          refine ACall.sel [0] (by decide) [.sb 0 g Cp 3 0 l.length, .int .i64 i, .int .i64 (i + 1 : Nat)] _ (Subs.three (Sub.slsb _ _ _ _ _ _) (Sub.refl _) (Sub.refl _)) (delete_own g Cp l i hil hm) ?_
          rintro r L' ⟨g', C', rfl, rfl⟩
          refine ⟨_, Sub.sbsl _ 0 _ _ _ _, ?_⟩
          repeat (first | refine Ops.go ?_ | refine And.intro rfl ?_ | refine And.intro (Nat.le_of_ble_eq_true rfl) ?_ | refine And.intro (Int.natCast_nonneg _) ?_ | refine fun (_ : Nat) => ?_ | refine Ord.go ?_ | refine Run.go rfl ?_ | refine Cont.go rfl ?_ | refine OrdP.go ?_)
          have e : stepP kd pl l c i true rb0 = some (l.take i ++ l.drop (i + 1)) := by
            unfold stepP
            rw [if_neg hk1, if_neg hk2, if_neg (by rintro (h | h); exact absurd h (by decide); exact hs h), if_neg (by rw [List.getElem?_eq_none (by omega)]; simp)]
          have el : (l.take i ++ l.drop (i + 1)).length = l.length - 1 := by simp; omega
          exact ⟨.tuple [.sl 0 g' C' (l.length - 1), .bool true], _, FinOk.keep _ [0] (Sub.tuples ⟨Sub.sl _ 0 _ _ _, Sub.refl _, trivial⟩) (by decide) rfl, i, true, j0, rb0, hf, hf0, by rw [e]; exact ⟨g', .sl 0 g' C' (l.length - 1), _, .inr ⟨C', by rw [el], rfl⟩, rfl, rfl⟩⟩
end Go.Proofs.YtfohedaadncefaaDoor.HBT
/- The contract of the shot's text 'fold' on a list that is nil. -/
namespace Go.Proofs.YtfohedaadncefaaDoor.HBT
open Go Go.Proofs.YtfohedaadncefaaDoor.HB Go.RowKit
set_option maxRecDepth 8000

theorem found_nil {p : ByteArray} {i : Nat} {b : Bool} (h : Found [] 0 p i b) : i = 0 ∧ b = false := by
  have h1 := h.1
  refine ⟨by omega, ?_⟩
  cases b
  · rfl
  · have := (h.2.2.2.1 rfl).1
    omega

set_option maxHeartbeats 8000000 in
theorem fold_nil (st : Int) (pl : ByteArray) (kd : Int) (c : Ch) (j0 : Nat) (rb0 : Bool) (hf0 : Found [] 0 (parentB c.p) j0 rb0) :
    FnSpec C 53 [shot st pl kd .nils, encC c] []
      (fun r L' => ∃ i b j rb, Found [] 0 c.p i b ∧ Found [] 0 (parentB c.p) j rb ∧ StepQ (stepP kd pl [] c i b rb) r L') := by
  have hh := fun p => has_spec [] 0 (Nat.le_refl _) (by omega) p (by simp)
  have fitY : fitC c → FnSpec C 31 [.str c.d, .int .i64 c.v] [] (fun r L' => r = .bool true ∧ L' = []) := fun h => by
    have := fits_spec c.d c.v
    rwa [show decide (c.d.size ≤ 64 ∧ 0 ≤ c.v ∧ c.v ≤ 2147483647) = true from decide_eq_true h] at this
  have fitN : ¬ fitC c → FnSpec C 31 [.str c.d, .int .i64 c.v] [] (fun r L' => r = .bool false ∧ L' = []) := fun h => by
    have := fits_spec c.d c.v
    rwa [show decide (c.d.size ≤ 64 ∧ 0 ≤ c.v ∧ c.v ≤ 2147483647) = false from decide_eq_false h] at this
  refine FnSpec.start C_ok Tryd.func53 rfl rfl Tryd.ntmps53 ?_
  repeat (first | refine Ops.go ?_ | refine And.intro rfl ?_ | refine And.intro (Nat.le_of_ble_eq_true rfl) ?_ | refine And.intro (Int.natCast_nonneg _) ?_ | refine fun (_ : Nat) => ?_ | refine Ord.go ?_ | refine Run.go rfl ?_ | refine Cont.go rfl ?_ | refine OrdP.go ?_)
  refine ACall.lend [rdo [] 0, .str c.p] _ (.two (.nils 3) (.same _)) (hh c.p) ?_
  rintro r L' ⟨⟨i, b, hf, rfl⟩, rfl⟩
  obtain ⟨rfl, rfl⟩ := found_nil hf
  refine ⟨rfl, ?_⟩
  repeat (first | refine Ops.go ?_ | refine And.intro rfl ?_ | refine And.intro (Nat.le_of_ble_eq_true rfl) ?_ | refine And.intro (Int.natCast_nonneg _) ?_ | refine fun (_ : Nat) => ?_ | refine Ord.go ?_ | refine Run.go rfl ?_ | refine Cont.go rfl ?_ | refine OrdP.go ?_)
  refine ⟨fun h => ?_, fun h => ?_⟩
  · have hx : nodeC kd c = ⟨c.p, ⟨#[]⟩, 0⟩ := if_pos h
    repeat (first | refine Ops.go ?_ | refine And.intro rfl ?_ | refine And.intro (Nat.le_of_ble_eq_true rfl) ?_ | refine And.intro (Int.natCast_nonneg _) ?_ | refine fun (_ : Nat) => ?_ | refine Ord.go ?_ | refine Run.go rfl ?_ | refine Cont.go rfl ?_ | refine OrdP.go ?_)
    refine ⟨fun hk => ?_, fun hk => ?_⟩
    · have hk : c.k = 1 := hk
      repeat (first | refine Ops.go ?_ | refine And.intro rfl ?_ | refine And.intro (Nat.le_of_ble_eq_true rfl) ?_ | refine And.intro (Int.natCast_nonneg _) ?_ | refine fun (_ : Nat) => ?_ | refine Ord.go ?_ | refine Run.go rfl ?_ | refine Cont.go rfl ?_ | refine OrdP.go ?_)
      refine ACall.ret (parent_spec c.p) ?_
      repeat (first | refine Ops.go ?_ | refine And.intro rfl ?_ | refine And.intro (Nat.le_of_ble_eq_true rfl) ?_ | refine And.intro (Int.natCast_nonneg _) ?_ | refine fun (_ : Nat) => ?_ | refine Ord.go ?_ | refine Run.go rfl ?_ | refine Cont.go rfl ?_ | refine OrdP.go ?_)
      refine ACall.lend [rdo [] 0, .str (parentB c.p)] _ (.two (.nils 3) (.same _)) (hh (parentB c.p)) ?_
      rintro r L' ⟨⟨j, rb, hf2, rfl⟩, rfl⟩
      obtain ⟨rfl, rfl⟩ := found_nil hf2
      refine ⟨rfl, ?_⟩
      repeat (first | refine Ops.go ?_ | refine And.intro rfl ?_ | refine And.intro (Nat.le_of_ble_eq_true rfl) ?_ | refine And.intro (Int.natCast_nonneg _) ?_ | refine fun (_ : Nat) => ?_ | refine Ord.go ?_ | refine Run.go rfl ?_ | refine Cont.go rfl ?_ | refine OrdP.go ?_)
      refine ⟨fun hp => ?_, fun hp => ?_⟩
      · have hp : c.p ≠ pl := hp
        repeat (first | refine Ops.go ?_ | refine And.intro rfl ?_ | refine And.intro (Nat.le_of_ble_eq_true rfl) ?_ | refine And.intro (Int.natCast_nonneg _) ?_ | refine fun (_ : Nat) => ?_ | refine Ord.go ?_ | refine Run.go rfl ?_ | refine Cont.go rfl ?_ | refine OrdP.go ?_)
        exact ⟨_, [], FinOk.drop _ _, 0, false, 0, false, hf, hf2, by rw [show stepP kd pl [] c 0 false false = none from by unfold stepP; rw [if_pos hk, if_pos (.inr (.inl ⟨hp, rfl⟩))]]; exact ⟨rfl, rfl⟩⟩
      · have hp : ¬ c.p ≠ pl := hp
        repeat (first | refine Ops.go ?_ | refine And.intro rfl ?_ | refine And.intro (Nat.le_of_ble_eq_true rfl) ?_ | refine And.intro (Int.natCast_nonneg _) ?_ | refine fun (_ : Nat) => ?_ | refine Ord.go ?_ | refine Run.go rfl ?_ | refine Cont.go rfl ?_ | refine OrdP.go ?_)
        by_cases hfit : fitC c
        case neg =>
          refine ACall.ret (fitN hfit) ?_
          repeat (first | refine Ops.go ?_ | refine And.intro rfl ?_ | refine And.intro (Nat.le_of_ble_eq_true rfl) ?_ | refine And.intro (Int.natCast_nonneg _) ?_ | refine fun (_ : Nat) => ?_ | refine Ord.go ?_ | refine Run.go rfl ?_ | refine Cont.go rfl ?_ | refine OrdP.go ?_)
          exact ⟨_, [], FinOk.drop _ _, 0, false, 0, false, hf, hf2, by rw [show stepP kd pl [] c 0 false false = none from by unfold stepP; rw [if_pos hk, if_pos (.inr (.inr (.inl hfit)))]]; exact ⟨rfl, rfl⟩⟩
        refine ACall.ret (fitY hfit) ?_
        repeat (first | refine Ops.go ?_ | refine And.intro rfl ?_ | refine And.intro (Nat.le_of_ble_eq_true rfl) ?_ | refine And.intro (Int.natCast_nonneg _) ?_ | refine fun (_ : Nat) => ?_ | refine Ord.go ?_ | refine Run.go rfl ?_ | refine Cont.go rfl ?_ | refine OrdP.go ?_)
        refine ⟨fun h64 => absurd h64 (by decide), fun _ => ?_⟩
        repeat (first | refine Ops.go ?_ | refine And.intro rfl ?_ | refine And.intro (Nat.le_of_ble_eq_true rfl) ?_ | refine And.intro (Int.natCast_nonneg _) ?_ | refine fun (_ : Nat) => ?_ | refine Ord.go ?_ | refine Run.go rfl ?_ | refine Cont.go rfl ?_ | refine OrdP.go ?_)
        refine ACall.sel [3] (by decide) [.nils, .int .i64 (0 : Nat), .sb 0 _ 1 3 0 1] _ (Subs.three (Sub.refl _) (Sub.refl _) (Sub.slsb _ _ _ _ _ _)) (insert_nil _ ⟨c.p, ⟨#[]⟩, 0⟩) ?_
        rintro r L' ⟨g', C', rfl, rfl⟩
        refine ⟨_, Sub.sbsl _ 3 _ _ _ _, ?_⟩
        repeat (first | refine Ops.go ?_ | refine And.intro rfl ?_ | refine And.intro (Nat.le_of_ble_eq_true rfl) ?_ | refine And.intro (Int.natCast_nonneg _) ?_ | refine fun (_ : Nat) => ?_ | refine Ord.go ?_ | refine Run.go rfl ?_ | refine Cont.go rfl ?_ | refine OrdP.go ?_)
        have e : stepP kd pl [] c 0 false false = some [⟨c.p, ⟨#[]⟩, 0⟩] := by
          unfold stepP
          rw [if_pos hk, if_neg (by rintro (h | h | h | h); exact absurd h (by decide); exact hp h.1; exact h hfit; exact absurd h (by decide)), hx]
          rfl
        exact ⟨.tuple [.sl 0 g' C' 1, .bool true], _, FinOk.keep _ [3] (Sub.tuples ⟨Sub.sl _ 0 _ _ _, Sub.refl _, trivial⟩) (by decide) rfl, 0, false, 0, false, hf, hf2, by rw [e]; exact ⟨g', .sl 0 g' C' 1, _, .inr ⟨C', rfl, rfl⟩, rfl, rfl⟩⟩
    have hk1 : ¬ c.k = 1 := hk
    repeat (first | refine Ops.go ?_ | refine And.intro rfl ?_ | refine And.intro (Nat.le_of_ble_eq_true rfl) ?_ | refine And.intro (Int.natCast_nonneg _) ?_ | refine fun (_ : Nat) => ?_ | refine Ord.go ?_ | refine Run.go rfl ?_ | refine Cont.go rfl ?_ | refine OrdP.go ?_)
    refine ⟨fun hk => ?_, fun hk => ?_⟩
    · have hk2 : c.k = 2 := hk
      repeat (first | refine Ops.go ?_ | refine And.intro rfl ?_ | refine And.intro (Nat.le_of_ble_eq_true rfl) ?_ | refine And.intro (Int.natCast_nonneg _) ?_ | refine fun (_ : Nat) => ?_ | refine Ord.go ?_ | refine Run.go rfl ?_ | refine Cont.go rfl ?_ | refine OrdP.go ?_)
      exact ⟨_, [], FinOk.drop _ _, 0, false, j0, rb0, hf, hf0, by rw [show stepP kd pl [] c 0 false rb0 = none from by unfold stepP; rw [if_neg hk1, if_pos hk2, if_pos (.inl rfl)]]; exact ⟨rfl, rfl⟩⟩
    · have hk2 : ¬ c.k = 2 := hk
      repeat (first | refine Ops.go ?_ | refine And.intro rfl ?_ | refine And.intro (Nat.le_of_ble_eq_true rfl) ?_ | refine And.intro (Int.natCast_nonneg _) ?_ | refine fun (_ : Nat) => ?_ | refine Ord.go ?_ | refine Run.go rfl ?_ | refine Cont.go rfl ?_ | refine OrdP.go ?_)
      exact ⟨_, [], FinOk.drop _ _, 0, false, j0, rb0, hf, hf0, by rw [show stepP kd pl [] c 0 false rb0 = none from by unfold stepP; rw [if_neg hk1, if_neg hk2, if_pos (.inl rfl)]]; exact ⟨rfl, rfl⟩⟩
  · have hx : nodeC kd c = ⟨c.p, c.d, c.v⟩ := if_neg h
    repeat (first | refine Ops.go ?_ | refine And.intro rfl ?_ | refine And.intro (Nat.le_of_ble_eq_true rfl) ?_ | refine And.intro (Int.natCast_nonneg _) ?_ | refine fun (_ : Nat) => ?_ | refine Ord.go ?_ | refine Run.go rfl ?_ | refine Cont.go rfl ?_ | refine OrdP.go ?_)
    refine ⟨fun hk => ?_, fun hk => ?_⟩
    · have hk : c.k = 1 := hk
      repeat (first | refine Ops.go ?_ | refine And.intro rfl ?_ | refine And.intro (Nat.le_of_ble_eq_true rfl) ?_ | refine And.intro (Int.natCast_nonneg _) ?_ | refine fun (_ : Nat) => ?_ | refine Ord.go ?_ | refine Run.go rfl ?_ | refine Cont.go rfl ?_ | refine OrdP.go ?_)
      refine ACall.ret (parent_spec c.p) ?_
      repeat (first | refine Ops.go ?_ | refine And.intro rfl ?_ | refine And.intro (Nat.le_of_ble_eq_true rfl) ?_ | refine And.intro (Int.natCast_nonneg _) ?_ | refine fun (_ : Nat) => ?_ | refine Ord.go ?_ | refine Run.go rfl ?_ | refine Cont.go rfl ?_ | refine OrdP.go ?_)
      refine ACall.lend [rdo [] 0, .str (parentB c.p)] _ (.two (.nils 3) (.same _)) (hh (parentB c.p)) ?_
      rintro r L' ⟨⟨j, rb, hf2, rfl⟩, rfl⟩
      obtain ⟨rfl, rfl⟩ := found_nil hf2
      refine ⟨rfl, ?_⟩
      repeat (first | refine Ops.go ?_ | refine And.intro rfl ?_ | refine And.intro (Nat.le_of_ble_eq_true rfl) ?_ | refine And.intro (Int.natCast_nonneg _) ?_ | refine fun (_ : Nat) => ?_ | refine Ord.go ?_ | refine Run.go rfl ?_ | refine Cont.go rfl ?_ | refine OrdP.go ?_)
      refine ⟨fun hp => ?_, fun hp => ?_⟩
      · have hp : c.p ≠ pl := hp
        repeat (first | refine Ops.go ?_ | refine And.intro rfl ?_ | refine And.intro (Nat.le_of_ble_eq_true rfl) ?_ | refine And.intro (Int.natCast_nonneg _) ?_ | refine fun (_ : Nat) => ?_ | refine Ord.go ?_ | refine Run.go rfl ?_ | refine Cont.go rfl ?_ | refine OrdP.go ?_)
        exact ⟨_, [], FinOk.drop _ _, 0, false, 0, false, hf, hf2, by rw [show stepP kd pl [] c 0 false false = none from by unfold stepP; rw [if_pos hk, if_pos (.inr (.inl ⟨hp, rfl⟩))]]; exact ⟨rfl, rfl⟩⟩
      · have hp : ¬ c.p ≠ pl := hp
        repeat (first | refine Ops.go ?_ | refine And.intro rfl ?_ | refine And.intro (Nat.le_of_ble_eq_true rfl) ?_ | refine And.intro (Int.natCast_nonneg _) ?_ | refine fun (_ : Nat) => ?_ | refine Ord.go ?_ | refine Run.go rfl ?_ | refine Cont.go rfl ?_ | refine OrdP.go ?_)
        by_cases hfit : fitC c
        case neg =>
          refine ACall.ret (fitN hfit) ?_
          repeat (first | refine Ops.go ?_ | refine And.intro rfl ?_ | refine And.intro (Nat.le_of_ble_eq_true rfl) ?_ | refine And.intro (Int.natCast_nonneg _) ?_ | refine fun (_ : Nat) => ?_ | refine Ord.go ?_ | refine Run.go rfl ?_ | refine Cont.go rfl ?_ | refine OrdP.go ?_)
          exact ⟨_, [], FinOk.drop _ _, 0, false, 0, false, hf, hf2, by rw [show stepP kd pl [] c 0 false false = none from by unfold stepP; rw [if_pos hk, if_pos (.inr (.inr (.inl hfit)))]]; exact ⟨rfl, rfl⟩⟩
        refine ACall.ret (fitY hfit) ?_
        repeat (first | refine Ops.go ?_ | refine And.intro rfl ?_ | refine And.intro (Nat.le_of_ble_eq_true rfl) ?_ | refine And.intro (Int.natCast_nonneg _) ?_ | refine fun (_ : Nat) => ?_ | refine Ord.go ?_ | refine Run.go rfl ?_ | refine Cont.go rfl ?_ | refine OrdP.go ?_)
        refine ⟨fun h64 => absurd h64 (by decide), fun _ => ?_⟩
        repeat (first | refine Ops.go ?_ | refine And.intro rfl ?_ | refine And.intro (Nat.le_of_ble_eq_true rfl) ?_ | refine And.intro (Int.natCast_nonneg _) ?_ | refine fun (_ : Nat) => ?_ | refine Ord.go ?_ | refine Run.go rfl ?_ | refine Cont.go rfl ?_ | refine OrdP.go ?_)
        refine ACall.sel [3] (by decide) [.nils, .int .i64 (0 : Nat), .sb 0 _ 1 3 0 1] _ (Subs.three (Sub.refl _) (Sub.refl _) (Sub.slsb _ _ _ _ _ _)) (insert_nil _ ⟨c.p, c.d, c.v⟩) ?_
        rintro r L' ⟨g', C', rfl, rfl⟩
        refine ⟨_, Sub.sbsl _ 3 _ _ _ _, ?_⟩
        repeat (first | refine Ops.go ?_ | refine And.intro rfl ?_ | refine And.intro (Nat.le_of_ble_eq_true rfl) ?_ | refine And.intro (Int.natCast_nonneg _) ?_ | refine fun (_ : Nat) => ?_ | refine Ord.go ?_ | refine Run.go rfl ?_ | refine Cont.go rfl ?_ | refine OrdP.go ?_)
        have e : stepP kd pl [] c 0 false false = some [⟨c.p, c.d, c.v⟩] := by
          unfold stepP
          rw [if_pos hk, if_neg (by rintro (h | h | h | h); exact absurd h (by decide); exact hp h.1; exact h hfit; exact absurd h (by decide)), hx]
          rfl
        exact ⟨.tuple [.sl 0 g' C' 1, .bool true], _, FinOk.keep _ [3] (Sub.tuples ⟨Sub.sl _ 0 _ _ _, Sub.refl _, trivial⟩) (by decide) rfl, 0, false, 0, false, hf, hf2, by rw [e]; exact ⟨g', .sl 0 g' C' 1, _, .inr ⟨C', rfl, rfl⟩, rfl, rfl⟩⟩
    have hk1 : ¬ c.k = 1 := hk
    repeat (first | refine Ops.go ?_ | refine And.intro rfl ?_ | refine And.intro (Nat.le_of_ble_eq_true rfl) ?_ | refine And.intro (Int.natCast_nonneg _) ?_ | refine fun (_ : Nat) => ?_ | refine Ord.go ?_ | refine Run.go rfl ?_ | refine Cont.go rfl ?_ | refine OrdP.go ?_)
    refine ⟨fun hk => ?_, fun hk => ?_⟩
    · have hk2 : c.k = 2 := hk
      repeat (first | refine Ops.go ?_ | refine And.intro rfl ?_ | refine And.intro (Nat.le_of_ble_eq_true rfl) ?_ | refine And.intro (Int.natCast_nonneg _) ?_ | refine fun (_ : Nat) => ?_ | refine Ord.go ?_ | refine Run.go rfl ?_ | refine Cont.go rfl ?_ | refine OrdP.go ?_)
      exact ⟨_, [], FinOk.drop _ _, 0, false, j0, rb0, hf, hf0, by rw [show stepP kd pl [] c 0 false rb0 = none from by unfold stepP; rw [if_neg hk1, if_pos hk2, if_pos (.inl rfl)]]; exact ⟨rfl, rfl⟩⟩
    · have hk2 : ¬ c.k = 2 := hk
      repeat (first | refine Ops.go ?_ | refine And.intro rfl ?_ | refine And.intro (Nat.le_of_ble_eq_true rfl) ?_ | refine And.intro (Int.natCast_nonneg _) ?_ | refine fun (_ : Nat) => ?_ | refine Ord.go ?_ | refine Run.go rfl ?_ | refine Cont.go rfl ?_ | refine OrdP.go ?_)
      exact ⟨_, [], FinOk.drop _ _, 0, false, j0, rb0, hf, hf0, by rw [show stepP kd pl [] c 0 false rb0 = none from by unfold stepP; rw [if_neg hk1, if_neg hk2, if_pos (.inl rfl)]]; exact ⟨rfl, rfl⟩⟩
end Go.Proofs.YtfohedaadncefaaDoor.HBT
/- The contracts of the document's own texts on names and places, part one. -/
namespace Go.Proofs.YtfohedaadncefaaDoor.HBT
open Go Go.Proofs.YtfohedaadncefaaDoor.HB Go.RowKit
set_option maxRecDepth 8000

theorem size_zero {s : ByteArray} (h : s.size < 1) : s = ⟨#[]⟩ := by
  apply bytes_inj
  have : s.data.toList.length = 0 := by rw [Array.length_toList]; show s.size = 0; omega
  rw [List.eq_nil_of_length_eq_zero this]

set_option maxHeartbeats 4000000 in
theorem nameOf_spec (s : ByteArray) : FnSpec C 96 [.str s] [] (fun r L' => r = .bool (isNameB s) ∧ L' = []) := by
  refine FnSpec.start C_ok Tryd.func96 rfl rfl Tryd.ntmps96 ?_
  repeat (first | refine Ops.go ?_ | refine And.intro rfl ?_ | refine And.intro (Nat.le_of_ble_eq_true rfl) ?_ | refine And.intro (Int.natCast_nonneg _) ?_ | refine fun (_ : Nat) => ?_ | refine Ord.go ?_ | refine Run.go rfl ?_ | refine Cont.go rfl ?_ | refine OrdP.go ?_)
  refine ⟨fun h => ?_, fun h => ?_⟩
  case' refine_1 =>
    repeat (first | refine Ops.go ?_ | refine And.intro rfl ?_ | refine And.intro (Nat.le_of_ble_eq_true rfl) ?_ | refine And.intro (Int.natCast_nonneg _) ?_ | refine fun (_ : Nat) => ?_ | refine Ord.go ?_ | refine Run.go rfl ?_ | refine Cont.go rfl ?_ | refine OrdP.go ?_)
    exact ⟨_, [], FinOk.drop _ _, congrArg AV.bool (show false = _ by
      have h : (s.size : Int) < 1 := h
      rw [size_zero (s := s) (by omega)]
      decide), rfl⟩
  have h : ¬ (s.size : Int) < 1 := h
  have h0 : ¬ s = ⟨#[]⟩ := fun e => by rw [e] at h; exact h (by decide)
  repeat (first | refine Ops.go ?_ | refine And.intro rfl ?_ | refine And.intro (Nat.le_of_ble_eq_true rfl) ?_ | refine And.intro (Int.natCast_nonneg _) ?_ | refine fun (_ : Nat) => ?_ | refine Ord.go ?_ | refine Run.go rfl ?_ | refine Cont.go rfl ?_ | refine OrdP.go ?_)
  refine ⟨fun h => ?_, fun h => ?_⟩
  case' refine_1 =>
    repeat (first | refine Ops.go ?_ | refine And.intro rfl ?_ | refine And.intro (Nat.le_of_ble_eq_true rfl) ?_ | refine And.intro (Int.natCast_nonneg _) ?_ | refine fun (_ : Nat) => ?_ | refine Ord.go ?_ | refine Run.go rfl ?_ | refine Cont.go rfl ?_ | refine OrdP.go ?_)
    exact ⟨_, [], FinOk.drop _ _, congrArg AV.bool (show false = _ by
      have h : (16 : Int) < (s.size : Int) := h
      have : ¬ s.size ≤ 16 := by omega
      simp [isNameB, this]), rfl⟩
  have h : ¬ (16 : Int) < (s.size : Int) := h
  have h1 : s.size ≤ 16 := by omega
  repeat (first | refine Ops.go ?_ | refine And.intro rfl ?_ | refine And.intro (Nat.le_of_ble_eq_true rfl) ?_ | refine And.intro (Int.natCast_nonneg _) ?_ | refine fun (_ : Nat) => ?_ | refine Ord.go ?_ | refine Run.go rfl ?_ | refine Cont.go rfl ?_ | refine OrdP.go ?_)
  refine ⟨fun h => ?_, fun h => ?_⟩
  case' refine_1 =>
    repeat (first | refine Ops.go ?_ | refine And.intro rfl ?_ | refine And.intro (Nat.le_of_ble_eq_true rfl) ?_ | refine And.intro (Int.natCast_nonneg _) ?_ | refine fun (_ : Nat) => ?_ | refine Ord.go ?_ | refine Run.go rfl ?_ | refine Cont.go rfl ?_ | refine OrdP.go ?_)
    exact ⟨_, [], FinOk.drop _ _, congrArg AV.bool (show false = _ by
      have h : s = ⟨#[46]⟩ := h
      subst h
      decide), rfl⟩
  have h2 : ¬ s = ⟨#[46]⟩ := h
  repeat (first | refine Ops.go ?_ | refine And.intro rfl ?_ | refine And.intro (Nat.le_of_ble_eq_true rfl) ?_ | refine And.intro (Int.natCast_nonneg _) ?_ | refine fun (_ : Nat) => ?_ | refine Ord.go ?_ | refine Run.go rfl ?_ | refine Cont.go rfl ?_ | refine OrdP.go ?_)
  refine ⟨fun h => ?_, fun h => ?_⟩
  case' refine_1 =>
    repeat (first | refine Ops.go ?_ | refine And.intro rfl ?_ | refine And.intro (Nat.le_of_ble_eq_true rfl) ?_ | refine And.intro (Int.natCast_nonneg _) ?_ | refine fun (_ : Nat) => ?_ | refine Ord.go ?_ | refine Run.go rfl ?_ | refine Cont.go rfl ?_ | refine OrdP.go ?_)
    exact ⟨_, [], FinOk.drop _ _, congrArg AV.bool (show false = _ by
      have h : s = ⟨#[46, 46]⟩ := h
      subst h
      decide), rfl⟩
  have h3 : ¬ s = ⟨#[46, 46]⟩ := h
  repeat (first | refine Ops.go ?_ | refine And.intro rfl ?_ | refine And.intro (Nat.le_of_ble_eq_true rfl) ?_ | refine And.intro (Int.natCast_nonneg _) ?_ | refine fun (_ : Nat) => ?_ | refine Ord.go ?_ | refine Run.go rfl ?_ | refine Cont.go rfl ?_ | refine OrdP.go ?_)
  refine Run.loop (fun k env L => ∃ i : Nat, k = s.size - i ∧ i ≤ s.size ∧ (∀ (j : Nat) (h : j < s.size), j < i → nameByte s[j].toNat = true) ∧ env = [.str s, .junk, .junk, .int .i64 i, .junk, .junk, .junk, .junk, .junk, .junk, .junk, .junk, .junk, .junk, .junk, .junk, .junk, .junk, .junk, .junk, .junk, .junk, .junk, .junk, .junk, .junk, .junk, .junk, .junk, .junk, .junk, .junk, .junk, .junk, .junk, .junk, .junk, .junk, .junk, .junk, .junk, .junk, .junk, .junk, .junk, .junk, .junk, .junk, .junk, .junk, .junk, .junk, .junk, .junk, .junk, .junk, .junk, .junk, .junk, .junk, .junk, .junk, .junk, .junk, .junk, .junk, .junk] ∧ L = []) s.size [.str s, .junk, .junk, .int .i64 0, .junk, .junk, .junk, .junk, .junk, .junk, .junk, .junk, .junk, .junk, .junk, .junk, .junk, .junk, .junk, .junk, .junk, .junk, .junk, .junk, .junk, .junk, .junk, .junk, .junk, .junk, .junk, .junk, .junk, .junk, .junk, .junk, .junk, .junk, .junk, .junk, .junk, .junk, .junk, .junk, .junk, .junk, .junk, .junk, .junk, .junk, .junk, .junk, .junk, .junk, .junk, .junk, .junk, .junk, .junk, .junk, .junk, .junk, .junk, .junk, .junk, .junk, .junk] ?_ ⟨0, by omega, by omega, (fun j _ hj => absurd hj (Nat.not_lt_zero j)), rfl, rfl⟩ ?_
  · repeat (first | exact trivial | refine ⟨.inl rfl, ?_⟩ | refine ⟨.inr rfl, ?_⟩)
  rintro k env L ⟨i, rfl, hi, hP, rfl, rfl⟩
  repeat (first | refine Ops.go ?_ | refine And.intro rfl ?_ | refine And.intro (Nat.le_of_ble_eq_true rfl) ?_ | refine And.intro (Int.natCast_nonneg _) ?_ | refine fun (_ : Nat) => ?_ | refine Ord.go ?_ | refine Run.go rfl ?_ | refine Cont.go rfl ?_ | refine OrdP.go ?_)
  refine ⟨fun h => ?_, fun h => ?_⟩
  · have h : (i : Int) < (s.size : Int) := h
    have hin : i < s.size := by omega
    repeat (first | refine Ops.go ?_ | refine And.intro rfl ?_ | refine And.intro (Nat.le_of_ble_eq_true rfl) ?_ | refine And.intro (Int.natCast_nonneg _) ?_ | refine fun (_ : Nat) => ?_ | refine Ord.go ?_ | refine Run.go rfl ?_ | refine Cont.go rfl ?_ | refine OrdP.go ?_)
    refine ⟨hin, ?_⟩
    repeat (first | refine Ops.go ?_ | refine And.intro rfl ?_ | refine And.intro (Nat.le_of_ble_eq_true rfl) ?_ | refine And.intro (Int.natCast_nonneg _) ?_ | refine fun (_ : Nat) => ?_ | refine Ord.go ?_ | refine Run.go rfl ?_ | refine Cont.go rfl ?_ | refine OrdP.go ?_)
    have hbad : nameByte s[i].toNat = false → false = isNameB s := fun hb => by
      symm
      rw [Bool.eq_false_iff]
      intro e
      unfold isNameB at e
      simp only [Bool.and_eq_true] at e
      have := (byte_all s _).1 e.2 i hin
      rw [hb] at this
      cases this
    generalize hc : s[i].toNat = c at hbad
    have hcb : c < 256 := by have := s[i].toNat_lt; omega
    have hcc : ∀ h, (s[(i : Int).toNat]'h).toNat = c := fun _ => hc
    simp only [hcc]
    repeat' (first | refine Ops.go ?_ | refine And.intro rfl ?_ | refine And.intro (Nat.le_of_ble_eq_true rfl) ?_ | refine And.intro (Int.natCast_nonneg _) ?_ | refine fun (_ : Nat) => ?_ | refine Ord.go ?_ | refine Run.go rfl ?_ | refine Cont.go rfl ?_ | refine OrdP.go ?_ | refine And.intro (fun _ => ?_) (fun _ => ?_))
    all_goals first
      | (refine ⟨_, [], FinOk.drop _ _, congrArg AV.bool (hbad ?_), rfl⟩
         cases hn : nameByte c with
         | false => rfl
         | true => unfold nameByte at hn; simp at hn; omega)
      | skip
    all_goals
      refine fun r hr => ?_
      obtain rfl := add1 hr (by omega)
      have hn : nameByte c = true := by
        cases hn : nameByte c with
        | true => rfl
        | false => exfalso; unfold nameByte at hn; simp at hn; omega
      repeat (first | refine Ops.go ?_ | refine And.intro rfl ?_ | refine And.intro (Nat.le_of_ble_eq_true rfl) ?_ | refine And.intro (Int.natCast_nonneg _) ?_ | refine fun (_ : Nat) => ?_ | refine Ord.go ?_ | refine Run.go rfl ?_ | refine Cont.go rfl ?_ | refine OrdP.go ?_)
      refine Cont.lp ?_
      refine ⟨s.size - (i + 1), [.str s, .junk, .junk, .int .i64 (i + 1 : Nat), .junk, .junk, .junk, .junk, .junk, .junk, .junk, .junk, .junk, .junk, .junk, .junk, .junk, .junk, .junk, .junk, .junk, .junk, .junk, .junk, .junk, .junk, .junk, .junk, .junk, .junk, .junk, .junk, .junk, .junk, .junk, .junk, .junk, .junk, .junk, .junk, .junk, .junk, .junk, .junk, .junk, .junk, .junk, .junk, .junk, .junk, .junk, .junk, .junk, .junk, .junk, .junk, .junk, .junk, .junk, .junk, .junk, .junk, .junk, .junk, .junk, .junk, .junk], 0, by omega, ?_, ⟨i + 1, rfl, by omega, ?_, rfl, rfl⟩⟩
      · repeat (first | exact trivial | refine ⟨.inl rfl, ?_⟩ | refine ⟨.inr rfl, ?_⟩)
      · intro j hj hji
        by_cases e : j = i
        · subst e; rw [hc]; exact hn
        · exact hP j hj (by omega)
  · have h : ¬ (i : Int) < (s.size : Int) := h
    repeat (first | refine Ops.go ?_ | refine And.intro rfl ?_ | refine And.intro (Nat.le_of_ble_eq_true rfl) ?_ | refine And.intro (Int.natCast_nonneg _) ?_ | refine fun (_ : Nat) => ?_ | refine Ord.go ?_ | refine Run.go rfl ?_ | refine Cont.go rfl ?_ | refine OrdP.go ?_)
    exact ⟨_, [], FinOk.drop _ _, congrArg AV.bool (show true = _ by
      symm
      unfold isNameB
      simp only [Bool.and_eq_true, decide_eq_true_eq]
      exact ⟨⟨⟨⟨h0, h1⟩, h2⟩, h3⟩, (byte_all s _).2 fun j hj => hP j hj (by omega)⟩), rfl⟩

end Go.Proofs.YtfohedaadncefaaDoor.HBT
