/- The contract of the shot's text 'belongs'. -/
import Derived.Test.YtfohedaadncefaaDoorHbD1
import Derived.Test.YtfohedaadncefaaDoorHbO
import Derived.Test.YtfohedaadncefaaDoorRows
import Derived.Lib.LaidU8
import Derived.Shelf.Vars
import Derived.Lay
import Derived.MakeChecks
import Derived.Test.YtfohedaadncefaaDoorHbL
namespace Go.Proofs.YtfohedaadncefaaDoor.HBT
open Go Go.Proofs.YtfohedaadncefaaDoor.HB Go.RowKit
set_option maxRecDepth 8000

abbrev shot (st : Int) (pl : ByteArray) (kd : Int) (l : AV) : AV := .agg [.int .i64 st, .str pl, .int .i64 kd, l]
def bare (x : Sn) : Prop := x.d = ⟨#[]⟩ ∧ x.v = 0
/-- May the node stand there? -/
def belongsP (pl : ByteArray) (kd : Int) (xs : List Sn) (i : Nat) (x : Sn) : Prop :=
  (i = 0 ∧ x.p = pl ∧ (kd ≠ 2 ∨ bare x)) ∨ (i ≠ 0 ∧ ∃ y, xs[i - 1]? = some y ∧ orderB y.p x.p < 0 ∧ ((kd = 2 ∧ childB x.p pl ∧ bare x) ∨ (kd = 3 ∧ belowB x.p pl ∧ ∃ k z, k < i ∧ xs[k]? = some z ∧ z.p = parentB x.p)))
noncomputable instance (pl : ByteArray) (kd : Int) (xs : List Sn) (i : Nat) (x : Sn) : Decidable (belongsP pl kd xs i x) := Classical.propDecidable _

theorem bare_eq (x : Sn) : allEq [.str x.p, .str x.d, .int .i64 x.v] [.str x.p, .str ⟨#[]⟩, .int .i64 0] ↔ bare x := by
  simp [allEq, eq1, bare]

set_option maxHeartbeats 1000000 in
theorem belongs_spec (st : Int) (pl : ByteArray) (kd : Int) (xs : List Sn) (n i : Nat) (x : Sn) (hn : n ≤ xs.length) (hm : n ≤ 1000) (hi : i < n) (ex : xs[i]? = some x) (hps : ∀ x ∈ xs, x.p.size ≤ 9223372036854775807) (hs : Sorted xs i) :
    FnSpec C 32 [shot st pl kd (rdo xs n), .int .i64 i] [] (fun r L' => r = .bool (decide (belongsP pl kd xs i x)) ∧ L' = []) := by
  have yes : belongsP pl kd xs i x → true = decide (belongsP pl kd xs i x) := fun h => (decide_eq_true h).symm
  have no : ¬ belongsP pl kd xs i x → false = decide (belongsP pl kd xs i x) := fun h => (decide_eq_false h).symm
  refine FnSpec.start C_ok Tryd.func32 rfl rfl Tryd.ntmps32 ?_
  repeat (first | refine Ops.go ?_ | refine And.intro rfl ?_ | refine And.intro (Nat.le_of_ble_eq_true rfl) ?_ | refine And.intro (Int.natCast_nonneg _) ?_ | refine fun (_ : Nat) => ?_ | refine Ord.go ?_ | refine Run.go rfl ?_ | refine Cont.go rfl ?_ | refine OrdP.go ?_)
  refine ⟨show (i : Int) < (n : Int) by omega, enc x, enc_at _ _ _ ex, ?_⟩
  repeat (first | refine Ops.go ?_ | refine And.intro rfl ?_ | refine And.intro (Nat.le_of_ble_eq_true rfl) ?_ | refine And.intro (Int.natCast_nonneg _) ?_ | refine fun (_ : Nat) => ?_ | refine Ord.go ?_ | refine Run.go rfl ?_ | refine Cont.go rfl ?_ | refine OrdP.go ?_)
  refine ⟨fun h => ?_, fun h => ?_⟩
  · have h : (i : Int) = 0 := h
    have hi0 : i = 0 := by omega
    repeat (first | refine Ops.go ?_ | refine And.intro rfl ?_ | refine And.intro (Nat.le_of_ble_eq_true rfl) ?_ | refine And.intro (Int.natCast_nonneg _) ?_ | refine fun (_ : Nat) => ?_ | refine Ord.go ?_ | refine Run.go rfl ?_ | refine Cont.go rfl ?_ | refine OrdP.go ?_)
    refine ⟨fun hp => ?_, fun hp => ?_⟩
    case' refine_2 =>
      repeat (first | refine Ops.go ?_ | refine And.intro rfl ?_ | refine And.intro (Nat.le_of_ble_eq_true rfl) ?_ | refine And.intro (Int.natCast_nonneg _) ?_ | refine fun (_ : Nat) => ?_ | refine Ord.go ?_ | refine Run.go rfl ?_ | refine Cont.go rfl ?_ | refine OrdP.go ?_)
      exact ⟨_, [], FinOk.drop _ _, congrArg AV.bool (no (by
        have hp : ¬ x.p = pl := hp
        rintro (⟨_, h2, _⟩ | ⟨h2, _⟩)
        · exact hp h2
        · exact h2 hi0)), rfl⟩
    have hp : x.p = pl := hp
    repeat (first | refine Ops.go ?_ | refine And.intro rfl ?_ | refine And.intro (Nat.le_of_ble_eq_true rfl) ?_ | refine And.intro (Int.natCast_nonneg _) ?_ | refine fun (_ : Nat) => ?_ | refine Ord.go ?_ | refine Run.go rfl ?_ | refine Cont.go rfl ?_ | refine OrdP.go ?_)
    refine ⟨fun hk => ?_, fun hk => ?_⟩
    case' refine_1 =>
      repeat (first | refine Ops.go ?_ | refine And.intro rfl ?_ | refine And.intro (Nat.le_of_ble_eq_true rfl) ?_ | refine And.intro (Int.natCast_nonneg _) ?_ | refine fun (_ : Nat) => ?_ | refine Ord.go ?_ | refine Run.go rfl ?_ | refine Cont.go rfl ?_ | refine OrdP.go ?_)
      exact ⟨_, [], FinOk.drop _ _, congrArg AV.bool (yes (.inl ⟨hi0, hp, .inl hk⟩)), rfl⟩
    have hk : ¬ kd ≠ 2 := hk
    repeat (first | refine Ops.go ?_ | refine And.intro rfl ?_ | refine And.intro (Nat.le_of_ble_eq_true rfl) ?_ | refine And.intro (Int.natCast_nonneg _) ?_ | refine fun (_ : Nat) => ?_ | refine Ord.go ?_ | refine Run.go rfl ?_ | refine Cont.go rfl ?_ | refine OrdP.go ?_)
    refine ⟨fun hb => ?_, fun hb => ?_⟩
    · repeat (first | refine Ops.go ?_ | refine And.intro rfl ?_ | refine And.intro (Nat.le_of_ble_eq_true rfl) ?_ | refine And.intro (Int.natCast_nonneg _) ?_ | refine fun (_ : Nat) => ?_ | refine Ord.go ?_ | refine Run.go rfl ?_ | refine Cont.go rfl ?_ | refine OrdP.go ?_)
      exact ⟨_, [], FinOk.drop _ _, congrArg AV.bool (yes (.inl ⟨hi0, hp, .inr ((bare_eq x).1 hb)⟩)), rfl⟩
    · repeat (first | refine Ops.go ?_ | refine And.intro rfl ?_ | refine And.intro (Nat.le_of_ble_eq_true rfl) ?_ | refine And.intro (Int.natCast_nonneg _) ?_ | refine fun (_ : Nat) => ?_ | refine Ord.go ?_ | refine Run.go rfl ?_ | refine Cont.go rfl ?_ | refine OrdP.go ?_)
      exact ⟨_, [], FinOk.drop _ _, congrArg AV.bool (no (by
        rintro (⟨_, _, h2⟩ | ⟨h2, _⟩)
        · rcases h2 with h2 | h2
          · exact hk h2
          · exact hb ((bare_eq x).2 h2)
        · exact h2 hi0)), rfl⟩
  · have h : ¬ (i : Int) = 0 := h
    have hi0 : i ≠ 0 := by omega
    obtain ⟨y, ey⟩ : ∃ y, xs[i - 1]? = some y := ⟨xs[i - 1], List.getElem?_eq_getElem (by omega)⟩
    repeat (first | refine Ops.go ?_ | refine And.intro rfl ?_ | refine And.intro (Nat.le_of_ble_eq_true rfl) ?_ | refine And.intro (Int.natCast_nonneg _) ?_ | refine fun (_ : Nat) => ?_ | refine Ord.go ?_ | refine Run.go rfl ?_ | refine Cont.go rfl ?_ | refine OrdP.go ?_)
    refine ACall.ret (isBelow_spec x.p pl) ?_
    repeat (first | refine Ops.go ?_ | refine And.intro rfl ?_ | refine And.intro (Nat.le_of_ble_eq_true rfl) ?_ | refine And.intro (Int.natCast_nonneg _) ?_ | refine fun (_ : Nat) => ?_ | refine Ord.go ?_ | refine Run.go rfl ?_ | refine Cont.go rfl ?_ | refine OrdP.go ?_)
    refine Run.drawn true [0, 1, 2, 3, 4, 5, 6, 7, 8, 9, 10] (by kernel_rfl) ?_
    repeat (first | refine Ops.go ?_ | refine And.intro rfl ?_ | refine And.intro (Nat.le_of_ble_eq_true rfl) ?_ | refine And.intro (Int.natCast_nonneg _) ?_ | refine fun (_ : Nat) => ?_ | refine Ord.go ?_ | refine Run.go rfl ?_ | refine Cont.go rfl ?_ | refine OrdP.go ?_)
    refine fun r hr => ?_
    obtain rfl : r = ((i - 1 : Nat) : Int) := by rw [hr, IntKind.wrap_i64]; omega
    have hy := hps y (List.mem_of_getElem? ey)
    repeat (first | refine Ops.go ?_ | refine And.intro rfl ?_ | refine And.intro (Nat.le_of_ble_eq_true rfl) ?_ | refine And.intro (Int.natCast_nonneg _) ?_ | refine fun (_ : Nat) => ?_ | refine Ord.go ?_ | refine Run.go rfl ?_ | refine Cont.go rfl ?_ | refine OrdP.go ?_)
    refine ⟨show ((i - 1 : Nat) : Int) < (n : Int) by omega, enc y, enc_at _ _ _ ey, ?_⟩
    repeat (first | refine Ops.go ?_ | refine And.intro rfl ?_ | refine And.intro (Nat.le_of_ble_eq_true rfl) ?_ | refine And.intro (Int.natCast_nonneg _) ?_ | refine fun (_ : Nat) => ?_ | refine Ord.go ?_ | refine Run.go rfl ?_ | refine Cont.go rfl ?_ | refine OrdP.go ?_)
    refine ACallQ.ret (order_spec y.p x.p hy) ?_
    repeat (first | refine Ops.go ?_ | refine And.intro rfl ?_ | refine And.intro (Nat.le_of_ble_eq_true rfl) ?_ | refine And.intro (Int.natCast_nonneg _) ?_ | refine fun (_ : Nat) => ?_ | refine Ord.go ?_ | refine Run.go rfl ?_ | refine Cont.go rfl ?_ | refine OrdP.go ?_)
    refine ⟨fun hc => ?_, fun hc => ?_⟩
    · have hc : (0 : Int) ≤ orderB y.p x.p := hc
      repeat (first | refine Ops.go ?_ | refine And.intro rfl ?_ | refine And.intro (Nat.le_of_ble_eq_true rfl) ?_ | refine And.intro (Int.natCast_nonneg _) ?_ | refine fun (_ : Nat) => ?_ | refine Ord.go ?_ | refine Run.go rfl ?_ | refine Cont.go rfl ?_ | refine OrdP.go ?_)
      exact ⟨_, [], FinOk.drop _ _, congrArg AV.bool (no (by
        rintro (⟨h2, _⟩ | ⟨_, z, ez, hz, _⟩)
        · exact hi0 h2
        · rw [ey] at ez; cases ez; omega)), rfl⟩
    have hc : ¬ (0 : Int) ≤ orderB y.p x.p := hc
    have hlt : orderB y.p x.p < 0 := by omega
    repeat (first | refine Ops.go ?_ | refine And.intro rfl ?_ | refine And.intro (Nat.le_of_ble_eq_true rfl) ?_ | refine And.intro (Int.natCast_nonneg _) ?_ | refine fun (_ : Nat) => ?_ | refine Ord.go ?_ | refine Run.go rfl ?_ | refine Cont.go rfl ?_ | refine OrdP.go ?_)
    refine ⟨fun hk => ?_, fun hk => ?_⟩
    · have hk : kd = 2 := hk
      repeat (first | refine Ops.go ?_ | refine And.intro rfl ?_ | refine And.intro (Nat.le_of_ble_eq_true rfl) ?_ | refine And.intro (Int.natCast_nonneg _) ?_ | refine fun (_ : Nat) => ?_ | refine Ord.go ?_ | refine Run.go rfl ?_ | refine Cont.go rfl ?_ | refine OrdP.go ?_)
      cases hch : decide (childB x.p pl) with
      | false =>
        repeat (first | refine Ops.go ?_ | refine And.intro rfl ?_ | refine And.intro (Nat.le_of_ble_eq_true rfl) ?_ | refine And.intro (Int.natCast_nonneg _) ?_ | refine fun (_ : Nat) => ?_ | refine Ord.go ?_ | refine Run.go rfl ?_ | refine Cont.go rfl ?_ | refine OrdP.go ?_)
        exact ⟨_, [], FinOk.drop _ _, congrArg AV.bool (no (by
          rintro (⟨h2, _⟩ | ⟨_, z, _, _, ⟨_, h2, _⟩ | ⟨h2, _⟩⟩)
          · exact hi0 h2
          · exact absurd h2 (of_decide_eq_false hch)
          · omega)), rfl⟩
      | true =>
        repeat (first | refine Ops.go ?_ | refine And.intro rfl ?_ | refine And.intro (Nat.le_of_ble_eq_true rfl) ?_ | refine And.intro (Int.natCast_nonneg _) ?_ | refine fun (_ : Nat) => ?_ | refine Ord.go ?_ | refine Run.go rfl ?_ | refine Cont.go rfl ?_ | refine OrdP.go ?_)
        refine ⟨fun hb => ?_, fun hb => ?_⟩
        · repeat (first | refine Ops.go ?_ | refine And.intro rfl ?_ | refine And.intro (Nat.le_of_ble_eq_true rfl) ?_ | refine And.intro (Int.natCast_nonneg _) ?_ | refine fun (_ : Nat) => ?_ | refine Ord.go ?_ | refine Run.go rfl ?_ | refine Cont.go rfl ?_ | refine OrdP.go ?_)
          exact ⟨_, [], FinOk.drop _ _, congrArg AV.bool (yes (.inr ⟨hi0, y, ey, hlt, .inl ⟨hk, of_decide_eq_true hch, (bare_eq x).1 hb⟩⟩)), rfl⟩
        · repeat (first | refine Ops.go ?_ | refine And.intro rfl ?_ | refine And.intro (Nat.le_of_ble_eq_true rfl) ?_ | refine And.intro (Int.natCast_nonneg _) ?_ | refine fun (_ : Nat) => ?_ | refine Ord.go ?_ | refine Run.go rfl ?_ | refine Cont.go rfl ?_ | refine OrdP.go ?_)
          exact ⟨_, [], FinOk.drop _ _, congrArg AV.bool (no (by
            rintro (⟨h2, _⟩ | ⟨_, z, _, _, ⟨_, _, h2⟩ | ⟨h2, _⟩⟩)
            · exact hi0 h2
            · exact hb ((bare_eq x).2 h2)
            · omega)), rfl⟩
    · have hk : ¬ kd = 2 := hk
      repeat (first | refine Ops.go ?_ | refine And.intro rfl ?_ | refine And.intro (Nat.le_of_ble_eq_true rfl) ?_ | refine And.intro (Int.natCast_nonneg _) ?_ | refine fun (_ : Nat) => ?_ | refine Ord.go ?_ | refine Run.go rfl ?_ | refine Cont.go rfl ?_ | refine OrdP.go ?_)
      refine ⟨fun hk3 => ?_, fun hk3 => ?_⟩
      · have hk3 : kd = 3 := hk3
        repeat (first | refine Ops.go ?_ | refine And.intro rfl ?_ | refine And.intro (Nat.le_of_ble_eq_true rfl) ?_ | refine And.intro (Int.natCast_nonneg _) ?_ | refine fun (_ : Nat) => ?_ | refine Ord.go ?_ | refine Run.go rfl ?_ | refine Cont.go rfl ?_ | refine OrdP.go ?_)
        refine ACall.ret (parent_spec x.p) ?_
        repeat (first | refine Ops.go ?_ | refine And.intro rfl ?_ | refine And.intro (Nat.le_of_ble_eq_true rfl) ?_ | refine And.intro (Int.natCast_nonneg _) ?_ | refine fun (_ : Nat) => ?_ | refine Ord.go ?_ | refine Run.go rfl ?_ | refine Cont.go rfl ?_ | refine OrdP.go ?_)
        refine ⟨show (i : Int) ≤ ((List.map enc xs).length : Int) by rw [List.length_map]; omega, ?_⟩
        repeat (first | refine Ops.go ?_ | refine And.intro rfl ?_ | refine And.intro (Nat.le_of_ble_eq_true rfl) ?_ | refine And.intro (Int.natCast_nonneg _) ?_ | refine fun (_ : Nat) => ?_ | refine Ord.go ?_ | refine Run.go rfl ?_ | refine Cont.go rfl ?_ | refine OrdP.go ?_)
        refine ACall.pure _ (has_spec xs i (by omega) (by omega) (parentB x.p) hps) ?_
        rintro r L' ⟨⟨m, b, hf, rfl⟩, rfl⟩
        refine ⟨_, Sub.refl _, ?_⟩
        have hb := found_iff hf hs
        repeat (first | refine Ops.go ?_ | refine And.intro rfl ?_ | refine And.intro (Nat.le_of_ble_eq_true rfl) ?_ | refine And.intro (Int.natCast_nonneg _) ?_ | refine fun (_ : Nat) => ?_ | refine Ord.go ?_ | refine Run.go rfl ?_ | refine Cont.go rfl ?_ | refine OrdP.go ?_)
        cases hbe : decide (belowB x.p pl) with
        | false =>
          repeat (first | refine Ops.go ?_ | refine And.intro rfl ?_ | refine And.intro (Nat.le_of_ble_eq_true rfl) ?_ | refine And.intro (Int.natCast_nonneg _) ?_ | refine fun (_ : Nat) => ?_ | refine Ord.go ?_ | refine Run.go rfl ?_ | refine Cont.go rfl ?_ | refine OrdP.go ?_)
          exact ⟨_, [], FinOk.drop _ _, congrArg AV.bool (no (by
            rintro (⟨h2, _⟩ | ⟨_, z, _, _, ⟨h2, _⟩ | ⟨_, h2, _⟩⟩)
            · exact hi0 h2
            · exact hk h2
            · exact absurd h2 (of_decide_eq_false hbe))), rfl⟩
        | true =>
          repeat (first | refine Ops.go ?_ | refine And.intro rfl ?_ | refine And.intro (Nat.le_of_ble_eq_true rfl) ?_ | refine And.intro (Int.natCast_nonneg _) ?_ | refine fun (_ : Nat) => ?_ | refine Ord.go ?_ | refine Run.go rfl ?_ | refine Cont.go rfl ?_ | refine OrdP.go ?_)
          exact ⟨_, [], FinOk.drop _ _, congrArg AV.bool (show b = _ by
            cases b with
            | true => exact yes (.inr ⟨hi0, y, ey, hlt, .inr ⟨hk3, of_decide_eq_true hbe, by
                obtain ⟨k, z, h1, h2, h3⟩ := hb.1 rfl
                exact ⟨k, z, h1, h2, h3⟩⟩⟩)
            | false => exact no (by
                rintro (⟨h2, _⟩ | ⟨_, z, _, _, ⟨h2, _⟩ | ⟨_, _, k, z', h4, h5, h6⟩⟩)
                · exact hi0 h2
                · exact hk h2
                · have := hb.2 ⟨k, z', h4, h5, h6⟩
                  cases this)), rfl⟩
      · have hk3 : ¬ kd = 3 := hk3
        repeat (first | refine Ops.go ?_ | refine And.intro rfl ?_ | refine And.intro (Nat.le_of_ble_eq_true rfl) ?_ | refine And.intro (Int.natCast_nonneg _) ?_ | refine fun (_ : Nat) => ?_ | refine Ord.go ?_ | refine Run.go rfl ?_ | refine Cont.go rfl ?_ | refine OrdP.go ?_)
        exact ⟨_, [], FinOk.drop _ _, congrArg AV.bool (no (by
          rintro (⟨h2, _⟩ | ⟨_, z, _, _, ⟨h2, _⟩ | ⟨h2, _⟩⟩)
          · exact hi0 h2
          · exact hk h2
          · exact hk3 h2)), rfl⟩

end Go.Proofs.YtfohedaadncefaaDoor.HBT
/- The contract of the shot's text 'Check'. -/
namespace Go.Proofs.YtfohedaadncefaaDoor.HBT
open Go Go.Proofs.YtfohedaadncefaaDoor.HB Go.RowKit
set_option maxRecDepth 8000

theorem sorted_of {xs : List Sn} {i : Nat} (hi : i ≤ xs.length) (h : ∀ (k : Nat) (x y : Sn), k + 1 < i → xs[k]? = some x → xs[k + 1]? = some y → orderB x.p y.p < 0) : Sorted xs i := by
  intro j k x y hjk hk ex ey
  obtain ⟨d, rfl⟩ : ∃ d, k = j + 1 + d := ⟨k - (j + 1), by omega⟩
  induction d generalizing y with
  | zero => exact h j x y (by omega) ex ey
  | succ d ih =>
    obtain ⟨z, ez⟩ : ∃ z, xs[j + 1 + d]? = some z := ⟨xs[j + 1 + d], List.getElem?_eq_getElem (by omega)⟩
    exact orderL_trans (ih z (by omega) (by omega) ez) (h (j + 1 + d) z y (by omega) ez ey)

def nodeOk (pl : ByteArray) (kd : Int) (xs : List Sn) (i : Nat) (x : Sn) : Prop := parseE x.p = 0 ∧ (x.d.size ≤ 64 ∧ 0 ≤ x.v ∧ x.v ≤ 2147483647) ∧ belongsP pl kd xs i x
/-- May the shot be? -/
def checkP (st : Int) (pl : ByteArray) (kd : Int) (xs : List Sn) (n : Nat) : Prop :=
  (0 ≤ st ∧ st ≤ 2147483647) ∧ parseE pl = 0 ∧ (kd = 1 ∨ kd = 2 ∨ kd = 3) ∧ n ≤ 64 ∧ ¬ (n = 0 ∧ pl = slash) ∧ ∀ (i : Nat) (x : Sn), i < n → xs[i]? = some x → nodeOk pl kd xs i x
noncomputable instance (st : Int) (pl : ByteArray) (kd : Int) (xs : List Sn) (n : Nat) : Decidable (checkP st pl kd xs n) := Classical.propDecidable _
noncomputable def checkE (st : Int) (pl : ByteArray) (kd : Int) (xs : List Sn) (n : Nat) : Int := if checkP st pl kd xs n then 0 else 51

set_option maxHeartbeats 4000000 in
theorem check_spec (st : Int) (pl : ByteArray) (kd : Int) (xs : List Sn) (n : Nat) (hn : n ≤ xs.length) (hps : ∀ x ∈ xs, x.p.size ≤ 9223372036854775807) :
    FnSpec C 12 [shot st pl kd (rdo xs n)] [] (fun r L' => r = .int .i64 (checkE st pl kd xs n) ∧ L' = []) := by
  refine FnSpec.start C_ok Tryd.func12 rfl rfl Tryd.ntmps12 ?_
  repeat (first | refine Ops.go ?_ | refine And.intro rfl ?_ | refine And.intro (Nat.le_of_ble_eq_true rfl) ?_ | refine And.intro (Int.natCast_nonneg _) ?_ | refine Ord.go ?_ | refine Run.go rfl ?_ | refine Cont.go rfl ?_ | refine OrdP.go ?_)
  refine fun g1 => ?_
  repeat (first | refine Ops.go ?_ | refine And.intro rfl ?_ | refine And.intro (Nat.le_of_ble_eq_true rfl) ?_ | refine And.intro (Int.natCast_nonneg _) ?_ | refine fun (_ : Nat) => ?_ | refine Ord.go ?_ | refine Run.go rfl ?_ | refine Cont.go rfl ?_ | refine OrdP.go ?_)
  have no : ¬ checkP st pl kd xs n → (51 : Int) = checkE st pl kd xs n := fun h => by unfold checkE; rw [if_neg h]
  refine ⟨fun h => ?_, fun h => ?_⟩
  · have h : st < 0 := h
    repeat (first | refine Ops.go ?_ | refine And.intro rfl ?_ | refine And.intro (Nat.le_of_ble_eq_true rfl) ?_ | refine And.intro (Int.natCast_nonneg _) ?_ | refine fun (_ : Nat) => ?_ | refine Ord.go ?_ | refine Run.go rfl ?_ | refine Cont.go rfl ?_ | refine OrdP.go ?_)
    exact ⟨_, [], FinOk.drop _ _, congrArg (AV.int .i64) (no (fun h2 => by have := h2.1; omega)), rfl⟩
  have h1 : ¬ st < 0 := h
  repeat (first | refine Ops.go ?_ | refine And.intro rfl ?_ | refine And.intro (Nat.le_of_ble_eq_true rfl) ?_ | refine And.intro (Int.natCast_nonneg _) ?_ | refine fun (_ : Nat) => ?_ | refine Ord.go ?_ | refine Run.go rfl ?_ | refine Cont.go rfl ?_ | refine OrdP.go ?_)
  refine ⟨fun h => ?_, fun h => ?_⟩
  · have h : (2147483647 : Int) < st := h
    repeat (first | refine Ops.go ?_ | refine And.intro rfl ?_ | refine And.intro (Nat.le_of_ble_eq_true rfl) ?_ | refine And.intro (Int.natCast_nonneg _) ?_ | refine fun (_ : Nat) => ?_ | refine Ord.go ?_ | refine Run.go rfl ?_ | refine Cont.go rfl ?_ | refine OrdP.go ?_)
    exact ⟨_, [], FinOk.drop _ _, congrArg (AV.int .i64) (no (fun h2 => by have := h2.1; omega)), rfl⟩
  have h2 : ¬ (2147483647 : Int) < st := h
  repeat (first | refine Ops.go ?_ | refine And.intro rfl ?_ | refine And.intro (Nat.le_of_ble_eq_true rfl) ?_ | refine And.intro (Int.natCast_nonneg _) ?_ | refine fun (_ : Nat) => ?_ | refine Ord.go ?_ | refine Run.go rfl ?_ | refine Cont.go rfl ?_ | refine OrdP.go ?_)
  cases hp : decide (parseE pl = 0) with
  | false =>
    have c1 := isPlace_spec pl
    rw [hp] at c1
    refine ACall.ret c1 ?_
    repeat (first | refine Ops.go ?_ | refine And.intro rfl ?_ | refine And.intro (Nat.le_of_ble_eq_true rfl) ?_ | refine And.intro (Int.natCast_nonneg _) ?_ | refine fun (_ : Nat) => ?_ | refine Ord.go ?_ | refine Run.go rfl ?_ | refine Cont.go rfl ?_ | refine OrdP.go ?_)
    exact ⟨_, [], FinOk.drop _ _, congrArg (AV.int .i64) (no (fun h2 => absurd h2.2.1 (of_decide_eq_false hp))), rfl⟩
  | true =>
    have c1 := isPlace_spec pl
    rw [hp] at c1
    refine ACall.ret c1 ?_
    repeat (first | refine Ops.go ?_ | refine And.intro rfl ?_ | refine And.intro (Nat.le_of_ble_eq_true rfl) ?_ | refine And.intro (Int.natCast_nonneg _) ?_ | refine fun (_ : Nat) => ?_ | refine Ord.go ?_ | refine Run.go rfl ?_ | refine Cont.go rfl ?_ | refine OrdP.go ?_)
    cases hk : decide (kd = 1 ∨ kd = 2 ∨ kd = 3) with
    | false =>
      have c2 := isKind_spec kd
      rw [hk] at c2
      refine ACall.ret c2 ?_
      repeat (first | refine Ops.go ?_ | refine And.intro rfl ?_ | refine And.intro (Nat.le_of_ble_eq_true rfl) ?_ | refine And.intro (Int.natCast_nonneg _) ?_ | refine fun (_ : Nat) => ?_ | refine Ord.go ?_ | refine Run.go rfl ?_ | refine Cont.go rfl ?_ | refine OrdP.go ?_)
      exact ⟨_, [], FinOk.drop _ _, congrArg (AV.int .i64) (no (fun h2 => absurd h2.2.2.1 (of_decide_eq_false hk))), rfl⟩
    | true =>
      have c2 := isKind_spec kd
      rw [hk] at c2
      refine ACall.ret c2 ?_
      repeat (first | refine Ops.go ?_ | refine And.intro rfl ?_ | refine And.intro (Nat.le_of_ble_eq_true rfl) ?_ | refine And.intro (Int.natCast_nonneg _) ?_ | refine fun (_ : Nat) => ?_ | refine Ord.go ?_ | refine Run.go rfl ?_ | refine Cont.go rfl ?_ | refine OrdP.go ?_)
      refine ⟨fun h => ?_, fun h => ?_⟩
      · have h : (64 : Int) < (n : Int) := h
        repeat (first | refine Ops.go ?_ | refine And.intro rfl ?_ | refine And.intro (Nat.le_of_ble_eq_true rfl) ?_ | refine And.intro (Int.natCast_nonneg _) ?_ | refine fun (_ : Nat) => ?_ | refine Ord.go ?_ | refine Run.go rfl ?_ | refine Cont.go rfl ?_ | refine OrdP.go ?_)
        exact ⟨_, [], FinOk.drop _ _, congrArg (AV.int .i64) (no (fun h2 => by have := h2.2.2.2.1; omega)), rfl⟩
      have h3 : ¬ (64 : Int) < (n : Int) := h
      repeat (first | refine Ops.go ?_ | refine And.intro rfl ?_ | refine And.intro (Nat.le_of_ble_eq_true rfl) ?_ | refine And.intro (Int.natCast_nonneg _) ?_ | refine fun (_ : Nat) => ?_ | refine Ord.go ?_ | refine Run.go rfl ?_ | refine Cont.go rfl ?_ | refine OrdP.go ?_)
      refine ⟨fun h => ?_, fun h => ?_⟩
      case' refine_1 =>
        have hn0 : (n : Int) = 0 := h
        repeat (first | refine Ops.go ?_ | refine And.intro rfl ?_ | refine And.intro (Nat.le_of_ble_eq_true rfl) ?_ | refine And.intro (Int.natCast_nonneg _) ?_ | refine fun (_ : Nat) => ?_ | refine Ord.go ?_ | refine Run.go rfl ?_ | refine Cont.go rfl ?_ | refine OrdP.go ?_)
        refine ⟨fun hpl => ?_, fun hpl => ?_⟩
        · have hpl : pl = slash := hpl
          repeat (first | refine Ops.go ?_ | refine And.intro rfl ?_ | refine And.intro (Nat.le_of_ble_eq_true rfl) ?_ | refine And.intro (Int.natCast_nonneg _) ?_ | refine fun (_ : Nat) => ?_ | refine Ord.go ?_ | refine Run.go rfl ?_ | refine Cont.go rfl ?_ | refine OrdP.go ?_)
          exact ⟨_, [], FinOk.drop _ _, congrArg (AV.int .i64) (no (fun h2 => h2.2.2.2.2.1 ⟨by omega, hpl⟩)), rfl⟩
        have hne : ¬ (n = 0 ∧ pl = slash) := fun h => hpl h.2
      case' refine_2 =>
        have hn0 : ¬ (n : Int) = 0 := h
        have hne : ¬ (n = 0 ∧ pl = slash) := fun h => hn0 (by omega)
      all_goals
        repeat (first | refine Ops.go ?_ | refine And.intro rfl ?_ | refine And.intro (Nat.le_of_ble_eq_true rfl) ?_ | refine And.intro (Int.natCast_nonneg _) ?_ | refine fun (_ : Nat) => ?_ | refine Ord.go ?_ | refine Run.go rfl ?_ | refine Cont.go rfl ?_ | refine OrdP.go ?_)
        refine Run.loop (fun k env L => ∃ i : Nat, k = n - i ∧ i ≤ n ∧ (∀ (j : Nat) (x : Sn), j < i → xs[j]? = some x → nodeOk pl kd xs j x) ∧
            env = [.junk, .ptr 0 g1 0, .junk, .junk, .junk, .junk, .junk, .junk, .junk, .junk, .junk, .junk, .junk, .junk, .junk, .junk, .junk, .junk, .junk, .junk, .junk, .junk, .junk, .junk, .junk, .junk, .junk, .junk, .junk, .junk, .junk, .junk, .junk, .junk, .junk, .junk, .junk, .junk, .junk, .junk, .junk, rdo xs n, .int .i64 n, .int .i64 i, .junk, .junk, .junk, .junk, .junk, .junk, .junk, .junk, .junk, .junk, .junk, .junk, .junk, .junk, .junk, .junk, .junk, .junk, .junk, .junk, .junk, .junk, .junk] ∧ L = [(g1, .cells 24 [.int .i64 st, .str pl, .int .i64 kd, rdo xs n])]) n
          [.junk, .ptr 0 g1 0, .junk, .junk, .junk, .junk, .junk, .junk, .junk, .junk, .junk, .junk, .junk, .junk, .junk, .junk, .junk, .junk, .junk, .junk, .junk, .junk, .junk, .junk, .junk, .junk, .junk, .junk, .junk, .junk, .junk, .junk, .junk, .junk, .junk, .junk, .junk, .junk, .junk, .junk, .junk, rdo xs n, .int .i64 n, .int .i64 0, .junk, .junk, .junk, .junk, .junk, .junk, .junk, .junk, .junk, .junk, .junk, .junk, .junk, .junk, .junk, .junk, .junk, .junk, .junk, .junk, .junk, .junk, .junk] ?_ ⟨0, by omega, by omega, (fun j _ hj _ => absurd hj (Nat.not_lt_zero j)), rfl, rfl⟩ ?_
        · repeat (first | exact trivial | refine ⟨.inl rfl, ?_⟩ | refine ⟨.inr rfl, ?_⟩)
        rintro k env L ⟨i, rfl, hi, hP, rfl, rfl⟩
        have hsort : Sorted xs i := sorted_of (by omega) (fun k x y hk ex ey => by
          obtain ⟨_, _, hb⟩ := hP (k + 1) y hk ey
          rcases hb with ⟨h0, _⟩ | ⟨_, z, ez, hz, _⟩
          · omega
          · rw [Nat.add_sub_cancel, ex] at ez; cases ez; exact hz)
        repeat (first | refine Ops.go ?_ | refine And.intro rfl ?_ | refine And.intro (Nat.le_of_ble_eq_true rfl) ?_ | refine And.intro (Int.natCast_nonneg _) ?_ | refine fun (_ : Nat) => ?_ | refine Ord.go ?_ | refine Run.go rfl ?_ | refine Cont.go rfl ?_ | refine OrdP.go ?_)
        refine ⟨fun h => ?_, fun h => ?_⟩
        · have h : (i : Int) < (n : Int) := h
          obtain ⟨x, ex⟩ : ∃ x, xs[i]? = some x := ⟨xs[i], List.getElem?_eq_getElem (by omega)⟩
          have bad : ¬ nodeOk pl kd xs i x → (51 : Int) = checkE st pl kd xs n := fun hb => no (fun h2 => hb (h2.2.2.2.2.2 i x (by omega) ex))
          repeat (first | refine Ops.go ?_ | refine And.intro rfl ?_ | refine And.intro (Nat.le_of_ble_eq_true rfl) ?_ | refine And.intro (Int.natCast_nonneg _) ?_ | refine fun (_ : Nat) => ?_ | refine Ord.go ?_ | refine Run.go rfl ?_ | refine Cont.go rfl ?_ | refine OrdP.go ?_)
          refine ⟨h, enc x, enc_at _ _ _ ex, ?_⟩
          repeat (first | refine Ops.go ?_ | refine And.intro rfl ?_ | refine And.intro (Nat.le_of_ble_eq_true rfl) ?_ | refine And.intro (Int.natCast_nonneg _) ?_ | refine fun (_ : Nat) => ?_ | refine Ord.go ?_ | refine Run.go rfl ?_ | refine Cont.go rfl ?_ | refine OrdP.go ?_)
          have c3 := isPlace_spec x.p
          have c4 := fits_spec x.d x.v
          have c5 := belongs_spec st pl kd xs n i x hn (by omega) (by omega) ex hps hsort
          cases e3 : decide (parseE x.p = 0) with
          | false =>
            rw [e3] at c3
            refine ACall.ret c3 ?_
            repeat (first | refine Ops.go ?_ | refine And.intro rfl ?_ | refine And.intro (Nat.le_of_ble_eq_true rfl) ?_ | refine And.intro (Int.natCast_nonneg _) ?_ | refine fun (_ : Nat) => ?_ | refine Ord.go ?_ | refine Run.go rfl ?_ | refine Cont.go rfl ?_ | refine OrdP.go ?_)
            exact ⟨_, [], FinOk.drop _ _, congrArg (AV.int .i64) (bad (fun hb => absurd hb.1 (of_decide_eq_false e3))), rfl⟩
          | true =>
            rw [e3] at c3
            refine ACall.ret c3 ?_
            repeat (first | refine Ops.go ?_ | refine And.intro rfl ?_ | refine And.intro (Nat.le_of_ble_eq_true rfl) ?_ | refine And.intro (Int.natCast_nonneg _) ?_ | refine fun (_ : Nat) => ?_ | refine Ord.go ?_ | refine Run.go rfl ?_ | refine Cont.go rfl ?_ | refine OrdP.go ?_)
            cases e4 : decide (x.d.size ≤ 64 ∧ 0 ≤ x.v ∧ x.v ≤ 2147483647) with
            | false =>
              rw [e4] at c4
              refine ACall.ret c4 ?_
              repeat (first | refine Ops.go ?_ | refine And.intro rfl ?_ | refine And.intro (Nat.le_of_ble_eq_true rfl) ?_ | refine And.intro (Int.natCast_nonneg _) ?_ | refine fun (_ : Nat) => ?_ | refine Ord.go ?_ | refine Run.go rfl ?_ | refine Cont.go rfl ?_ | refine OrdP.go ?_)
              exact ⟨_, [], FinOk.drop _ _, congrArg (AV.int .i64) (bad (fun hb => absurd hb.2.1 (of_decide_eq_false e4))), rfl⟩
            | true =>
              rw [e4] at c4
              refine ACall.ret c4 ?_
              repeat (first | refine Ops.go ?_ | refine And.intro rfl ?_ | refine And.intro (Nat.le_of_ble_eq_true rfl) ?_ | refine And.intro (Int.natCast_nonneg _) ?_ | refine fun (_ : Nat) => ?_ | refine Ord.go ?_ | refine Run.go rfl ?_ | refine Cont.go rfl ?_ | refine OrdP.go ?_)
              cases e5 : decide (belongsP pl kd xs i x) with
              | false =>
                rw [e5] at c5
                refine ACall.ret c5 ?_
                repeat (first | refine Ops.go ?_ | refine And.intro rfl ?_ | refine And.intro (Nat.le_of_ble_eq_true rfl) ?_ | refine And.intro (Int.natCast_nonneg _) ?_ | refine fun (_ : Nat) => ?_ | refine Ord.go ?_ | refine Run.go rfl ?_ | refine Cont.go rfl ?_ | refine OrdP.go ?_)
                exact ⟨_, [], FinOk.drop _ _, congrArg (AV.int .i64) (bad (fun hb => absurd hb.2.2 (of_decide_eq_false e5))), rfl⟩
              | true =>
                rw [e5] at c5
                refine ACall.ret c5 ?_
                repeat (first | refine Ops.go ?_ | refine And.intro rfl ?_ | refine And.intro (Nat.le_of_ble_eq_true rfl) ?_ | refine And.intro (Int.natCast_nonneg _) ?_ | refine fun (_ : Nat) => ?_ | refine Ord.go ?_ | refine Run.go rfl ?_ | refine Cont.go rfl ?_ | refine OrdP.go ?_)
                refine fun r hr => ?_
                obtain rfl := add1 hr (by omega)
                repeat (first | refine Ops.go ?_ | refine And.intro rfl ?_ | refine And.intro (Nat.le_of_ble_eq_true rfl) ?_ | refine And.intro (Int.natCast_nonneg _) ?_ | refine fun (_ : Nat) => ?_ | refine Ord.go ?_ | refine Run.go rfl ?_ | refine Cont.go rfl ?_ | refine OrdP.go ?_)
                refine Cont.lp ?_
                refine ⟨n - (i + 1), [.junk, .ptr 0 g1 0, .junk, .junk, .junk, .junk, .junk, .junk, .junk, .junk, .junk, .junk, .junk, .junk, .junk, .junk, .junk, .junk, .junk, .junk, .junk, .junk, .junk, .junk, .junk, .junk, .junk, .junk, .junk, .junk, .junk, .junk, .junk, .junk, .junk, .junk, .junk, .junk, .junk, .junk, .junk, rdo xs n, .int .i64 n, .int .i64 (i + 1 : Nat), .junk, .junk, .junk, .junk, .junk, .junk, .junk, .junk, .junk, .junk, .junk, .junk, .junk, .junk, .junk, .junk, .junk, .junk, .junk, .junk, .junk, .junk, .junk], 1, by omega, ?_, ⟨i + 1, rfl, by omega, ?_, rfl, rfl⟩⟩
                · repeat (first | exact trivial | refine ⟨.inl rfl, ?_⟩ | refine ⟨.inr rfl, ?_⟩)
                · intro j y hj ey
                  by_cases e : j = i
                  · subst e; rw [ex] at ey; cases ey; exact ⟨of_decide_eq_true e3, of_decide_eq_true e4, of_decide_eq_true e5⟩
                  · exact hP j y (by omega) ey
        · have h : ¬ (i : Int) < (n : Int) := h
          repeat (first | refine Ops.go ?_ | refine And.intro rfl ?_ | refine And.intro (Nat.le_of_ble_eq_true rfl) ?_ | refine And.intro (Int.natCast_nonneg _) ?_ | refine fun (_ : Nat) => ?_ | refine Ord.go ?_ | refine Run.go rfl ?_ | refine Cont.go rfl ?_ | refine OrdP.go ?_)
          exact ⟨_, [], FinOk.drop _ _, congrArg (AV.int .i64) (show (0 : Int) = _ by
            unfold checkE
            rw [if_pos]
            exact ⟨by omega, of_decide_eq_true hp, of_decide_eq_true hk, by omega, hne, fun j x hj ex => hP j x (by omega) ex⟩), rfl⟩

end Go.Proofs.YtfohedaadncefaaDoor.HBT
/- What the door seat's laws share: how a shot is read, what the listed variables give, the witness. -/
namespace Go.Proofs.YtfohedaadncefaaDoor.HBT
open Go Go.Proofs.YtfohedaadncefaaDoor.HB Go.Proofs.YtfohedaadncefaaDoor Go.ChangeShapes Go.WideShapes Go.ChangeAt Go.RowKit Go.Lib
set_option maxRecDepth 8000

theorem seen_arg {ys : List AV} (h : CellsOk Tryd.prog 50 ys) : ∃ s : { s : Sn // s.p.size ≤ maxLen }, wrapC true ys = enc s.1 := by
  obtain ⟨yss, hf, rfl⟩ := h.struct_inv Tryd.underlying50
  obtain ⟨y0, yss, rfl, h0, hf⟩ := hf.cons_inv
  obtain ⟨y1, yss, rfl, h1, hf⟩ := hf.cons_inv
  obtain ⟨y2, yss, rfl, h2, hf⟩ := hf.cons_inv
  obtain rfl := hf.nil_inv
  obtain ⟨p, hp, rfl⟩ := h0.str_inv Tryd.underlying9
  obtain ⟨q, _, rfl⟩ := h1.str_inv Tryd.underlying9
  obtain ⟨n, _, rfl⟩ := h2.int_inv Tryd.underlying3
  exact ⟨⟨⟨p, q, n⟩, hp⟩, rfl⟩

theorem shot_arg {x : AV} (h : ArgOk Tryd.prog 24 x) : ∃ st pl kd xs n, n ≤ xs.length ∧ (∀ x ∈ xs, x.p.size ≤ 9223372036854775807) ∧ pl.size ≤ maxLen ∧ x = shot st pl kd (rdo xs n) := by
  obtain ⟨ys, h, rfl⟩ := h
  obtain ⟨yss, hf, rfl⟩ := h.struct_inv Tryd.underlying24
  obtain ⟨y0, yss, rfl, h0, hf⟩ := hf.cons_inv
  obtain ⟨y1, yss, rfl, h1, hf⟩ := hf.cons_inv
  obtain ⟨y2, yss, rfl, h2, hf⟩ := hf.cons_inv
  obtain ⟨y3, yss, rfl, h3, hf⟩ := hf.cons_inv
  obtain rfl := hf.nil_inv
  obtain ⟨st, _, rfl⟩ := h0.int_inv Tryd.underlying3
  obtain ⟨pl, hpl, rfl⟩ := h1.str_inv Tryd.underlying9
  obtain ⟨kd, _, rfl⟩ := h2.int_inv Tryd.underlying3
  obtain ⟨xss, n, hn, _, hx, rfl⟩ := h3.slice_inv Tryd.underlying22
  have ha : aggT Tryd.prog 50 = true := by kernel_rfl
  have hc : Tryd.prog.cellsOf 50 = 3 := by kernel_rfl
  have ha2 : aggT Tryd.prog 24 = true := by kernel_rfl
  obtain ⟨l, hl, hm⟩ := map_told (f := wrapC true) (g := fun s : { s : Sn // s.p.size ≤ maxLen } => enc s.1) (fun c hc => seen_arg (hx c hc))
  refine ⟨st, pl, kd, l.map (·.1), n, by simp; omega, ?_, hpl, ?_⟩
  · intro x hx
    obtain ⟨y, _, rfl⟩ := List.mem_map.1 hx
    exact Nat.le_trans y.2 (by decide)
  · have hm2 : l.map (fun s : { s : Sn // s.p.size ≤ maxLen } => enc s.1) = (l.map (·.1)).map enc := by rw [List.map_map]; rfl
    rw [ha, hc, ha2, hm, hm2]
    rfl

theorem own : ownKnob Tryd.prog.godebug = none := by kernel_rfl
theorem laidOut : laidOutB Tryd.prog = true := by kernel_rfl
def laid : List (String × DataW Unit) := [("unicode/utf8.acceptRanges", Rows.laid_unicode_utf8_acceptRanges), ("herald/place.named", Rows.laid_herald_place_named), ("unicode/utf8.first", Rows.laid_unicode_utf8_first)]

theorem gNamed : Tryd.prog.globalNamed "herald/place.named" = some 0 := by kernel_rfl
theorem tNamed : (Tryd.prog.globals[0]?).map (·.type) = some 138 := by kernel_rfl
theorem named_tab : (Rows.laid_herald_place_named : DataW Unit) = tabData .u8 namedRow := by kernel_rfl

theorem cells_of_shaped {P : Program} {w : World} {g : Nat} {t : TypeId} {zero : Array Value} (h : w.ShapedOpen P) (hg : g < P.globals.size)
    (h0 : ((begin P (fun _ _ => 0) default).world.heap[g]?).bind Obj.row? = some (zero, t)) : ∃ cs, w.heap[g]? = some (.cells cs t) ∧ cs.size = zero.size :=
  let ⟨cs, h1, h2, _⟩ := h.1 g zero t hg h0
  ⟨cs, h1, h2⟩

theorem G_of {W : World} (hL : laidMetH Tryd.prog laid W) (hs : W.ShapedOpen Tryd.prog) : G (fun g => g < W.heap.size) W := by
  rw [MakeChecks.laidMetH_plain _ _ _ (by kernel_rfl)] at hL
  obtain ⟨g, t, cs, fuel, p, hg, hty, hvar, hd⟩ := laidMet.reads hL (List.Mem.tail _ (List.Mem.head _))
  obtain rfl := Option.some.inj (gNamed.symm.trans hg)
  obtain rfl := Option.some.inj (tNamed.symm.trans hty)
  rw [named_tab] at hd
  have hcs := cells_of_tab Tryd.underlying138 Tryd.underlying5 (by kernel_rfl) (by kernel_rfl) hd
  have hcs : cs = (namedRow.map (Value.int .u8)).toArray := by rw [← hcs]
  have h0 : ∃ t fr, W.heap[0]? = some (.cells (namedRow.map (Value.int .u8)).toArray t fr) := by
    simp only [World.var?, hg, Option.bind_some] at hvar
    split at hvar
    · rename_i c t fr hb
      cases hvar
      exact ⟨t, fr, by rw [hb, hcs]⟩
    · cases hvar
  have h1 : ∃ m t fr, W.heap[1]? = some (.cells #[.int .i64 m] t fr) := by
    obtain ⟨m, hm⟩ := cell_of_shapedOpen_int (k := .i64) (g := 1) (t := 3) (zero := #[.int .i64 0]) hs (of_decide_eq_true (by kernel_rfl)) (by kernel_rfl) rfl (by kernel_rfl) (by kernel_rfl) Tryd.underlying3
    obtain ⟨cs, h1, h2⟩ := cells_of_shaped (g := 1) (t := 3) (zero := #[.int .i64 0]) hs (of_decide_eq_true (by kernel_rfl)) (by kernel_rfl)
    refine ⟨m, 3, (0, 0), ?_⟩
    rw [h1]
    have h3 : cs[0]? = some (.int .i64 m) := by
      unfold World.cell? at hm
      rw [h1] at hm
      simpa using hm
    have : cs = #[.int .i64 m] := by
      apply Array.toList_inj.1
      obtain ⟨l⟩ := cs
      match l, h2, h3 with
      | [x], _, h3 => simp at h3; rw [h3]
    rw [this]
  have lt : ∀ {g : Nat} {o : Obj}, W.heap[g]? = some o → g < W.heap.size := fun h => (Array.getElem?_eq_some_iff.1 h).1
  obtain ⟨t, fr, e0⟩ := h0
  obtain ⟨m, t', fr', e1⟩ := h1
  exact ⟨lt e0, lt e1, ⟨t, fr, e0⟩, m, t', fr', e1⟩

/-- The witness meets the condition. -/
theorem door_met (os : Os) (args : Array Value) : laidMetH Tryd.prog laid ((World.laidAll Tryd.prog os laid).forCall (fun _ _ => 0) ⟨#[], args, []⟩).memory := by
  rw [MakeChecks.laidMetH_plain _ _ _ (by kernel_rfl)]
  exact laidMet_laidAll _ (by kernel_rfl) (by kernel_rfl)
theorem door_shape (os : Os) (args : Array Value) : ((World.laidAll Tryd.prog os laid).forCall (fun _ _ => 0) ⟨#[], args, []⟩).Shaped Tryd.prog := World.shaped_of_ZipB (by kernel_rfl) (by kernel_rfl)

end Go.Proofs.YtfohedaadncefaaDoor.HBT
/- The contracts of the small functions that the laws of the door seat call: 'small', 'mark', 'roomy', 'num', 'Same', 'alike', 'untouched'. -/
namespace Go.Proofs.YtfohedaadncefaaDoor.HBT
open Go Go.Proofs.YtfohedaadncefaaDoor.HB Go.RowKit
set_option maxRecDepth 8000

theorem small_spec (st : Int) (pl : ByteArray) (kd : Int) (xs : List Sn) (n : Nat) : FnSpec C 8 [shot st pl kd (rdo xs n)] [] (fun r L' => r = .bool (decide (n ≤ 70)) ∧ L' = []) := by
  refine FnSpec.start C_ok Tryd.func8 rfl rfl Tryd.ntmps8 ?_
  repeat (first | refine Ops.go ?_ | refine And.intro rfl ?_ | refine And.intro (Nat.le_of_ble_eq_true rfl) ?_ | refine And.intro (Int.natCast_nonneg _) ?_ | refine Ord.go ?_ | refine Run.go rfl ?_ | refine Cont.go rfl ?_ | refine OrdP.go ?_)
  refine fun g => ?_
  repeat (first | refine Ops.go ?_ | refine And.intro rfl ?_ | refine And.intro (Nat.le_of_ble_eq_true rfl) ?_ | refine And.intro (Int.natCast_nonneg _) ?_ | refine fun (_ : Nat) => ?_ | refine Ord.go ?_ | refine Run.go rfl ?_ | refine Cont.go rfl ?_ | refine OrdP.go ?_)
  refine ⟨fun h => ?_, fun h => ?_⟩
  · repeat (first | refine Ops.go ?_ | refine And.intro rfl ?_ | refine And.intro (Nat.le_of_ble_eq_true rfl) ?_ | refine And.intro (Int.natCast_nonneg _) ?_ | refine fun (_ : Nat) => ?_ | refine Ord.go ?_ | refine Run.go rfl ?_ | refine Cont.go rfl ?_ | refine OrdP.go ?_)
    exact ⟨_, [], FinOk.drop _ _, congrArg AV.bool (show true = _ by have : (n : Int) ≤ 70 := h; symm; simp; omega), rfl⟩
  · repeat (first | refine Ops.go ?_ | refine And.intro rfl ?_ | refine And.intro (Nat.le_of_ble_eq_true rfl) ?_ | refine And.intro (Int.natCast_nonneg _) ?_ | refine fun (_ : Nat) => ?_ | refine Ord.go ?_ | refine Run.go rfl ?_ | refine Cont.go rfl ?_ | refine OrdP.go ?_)
    exact ⟨_, [], FinOk.drop _ _, congrArg AV.bool (show false = _ by have : ¬ (n : Int) ≤ 70 := h; symm; simp; omega), rfl⟩

theorem num_spec (k : Int) : FnSpec C 19 [.int .i64 k] [] (fun r L' => r = .int .i64 k ∧ L' = []) := by
  refine FnSpec.start C_ok Tryd.func19 rfl rfl Tryd.ntmps19 ?_
  repeat (first | refine Ops.go ?_ | refine And.intro rfl ?_ | refine And.intro (Nat.le_of_ble_eq_true rfl) ?_ | refine And.intro (Int.natCast_nonneg _) ?_ | refine fun (_ : Nat) => ?_ | refine Ord.go ?_ | refine Run.go rfl ?_ | refine Cont.go rfl ?_ | refine OrdP.go ?_)
  exact ⟨_, [], FinOk.drop _ _, rfl, rfl⟩

def mark : Sn := ⟨⟨#[98, 101, 104, 105, 110, 100]⟩, ⟨#[]⟩, 91⟩
theorem mark_spec : FnSpec C 26 [] [] (fun r L' => r = enc mark ∧ L' = []) := by
  refine FnSpec.start C_ok Tryd.func26 rfl rfl Tryd.ntmps26 ?_
  repeat (first | refine Ops.go ?_ | refine And.intro rfl ?_ | refine And.intro (Nat.le_of_ble_eq_true rfl) ?_ | refine And.intro (Int.natCast_nonneg _) ?_ | refine fun (_ : Nat) => ?_ | refine Ord.go ?_ | refine Run.go rfl ?_ | refine Cont.go rfl ?_ | refine OrdP.go ?_)
  exact ⟨_, [], FinOk.drop _ _, rfl, rfl⟩

theorem roomy_spec (st : Int) (pl : ByteArray) (kd : Int) (xs : List Sn) (n : Nat) (hn : n ≤ 70) (hx : n ≤ xs.length) : FnSpec C 9 [shot st pl kd (rdo xs n)] []
    (fun r L' => ∃ g Cp, r = shot st pl kd (.sl 0 g Cp n) ∧ L' = [(g, .row 50 3 Cp ((xs.take n ++ [mark]).map enc))]) := by
  refine FnSpec.start C_ok Tryd.func9 rfl rfl Tryd.ntmps9 ?_
  repeat (first | refine Ops.go ?_ | refine And.intro rfl ?_ | refine And.intro (Nat.le_of_ble_eq_true rfl) ?_ | refine And.intro (Int.natCast_nonneg _) ?_ | refine fun (_ : Nat) => ?_ | refine Ord.go ?_ | refine Run.go rfl ?_ | refine Cont.go rfl ?_ | refine OrdP.go ?_)
  refine ⟨by simp; omega, ?_, ?_⟩
  · intro h
    have hn0 : n = 0 := by have := congrArg List.length h; rw [List.length_take, List.length_map, List.length_nil] at this; omega
    repeat (first | refine Ops.go ?_ | refine And.intro rfl ?_ | refine And.intro (Nat.le_of_ble_eq_true rfl) ?_ | refine And.intro (Int.natCast_nonneg _) ?_ | refine fun (_ : Nat) => ?_ | refine Ord.go ?_ | refine Run.go rfl ?_ | refine Cont.go rfl ?_ | refine OrdP.go ?_)
    refine ACall.ret mark_spec ?_
    repeat (first | refine Ops.go ?_ | refine And.intro rfl ?_ | refine And.intro (Nat.le_of_ble_eq_true rfl) ?_ | refine And.intro (Int.natCast_nonneg _) ?_ | refine fun (_ : Nat) => ?_ | refine Ord.go ?_ | refine Run.go rfl ?_ | refine Cont.go rfl ?_ | refine OrdP.go ?_)
    refine ⟨fun h => absurd h (List.cons_ne_nil _ _), fun _ => ?_⟩
    repeat (first | refine Ops.go ?_ | refine And.intro rfl ?_ | refine And.intro (Nat.le_of_ble_eq_true rfl) ?_ | refine And.intro (Int.natCast_nonneg _) ?_ | refine fun (_ : Nat) => ?_ | refine Ord.go ?_ | refine Run.go rfl ?_ | refine Cont.go rfl ?_ | refine OrdP.go ?_)
    refine ⟨show (n : Int) ≤ ((1 : Nat) : Int) by omega, ?_⟩
    repeat (first | refine Ops.go ?_ | refine And.intro rfl ?_ | refine And.intro (Nat.le_of_ble_eq_true rfl) ?_ | refine And.intro (Int.natCast_nonneg _) ?_ | refine fun (_ : Nat) => ?_ | refine Ord.go ?_ | refine Run.go rfl ?_ | refine Cont.go rfl ?_ | refine OrdP.go ?_)
    subst hn0
    exact ⟨shot st pl kd (.sl 0 _ _ 0), _, FinOk.keep _ [3] (Sub.aggs ⟨Sub.refl _, Sub.refl _, Sub.refl _, Sub.sl _ 0 _ _ _, trivial⟩) (by decide) rfl, _, _, rfl, rfl⟩
  · intro h
    repeat (first | refine Ops.go ?_ | refine And.intro rfl ?_ | refine And.intro (Nat.le_of_ble_eq_true rfl) ?_ | refine And.intro (Int.natCast_nonneg _) ?_ | refine fun (_ : Nat) => ?_ | refine Ord.go ?_ | refine Run.go rfl ?_ | refine Cont.go rfl ?_ | refine OrdP.go ?_)
    refine ACall.ret mark_spec ?_
    repeat (first | refine Ops.go ?_ | refine And.intro rfl ?_ | refine And.intro (Nat.le_of_ble_eq_true rfl) ?_ | refine And.intro (Int.natCast_nonneg _) ?_ | refine fun (_ : Nat) => ?_ | refine Ord.go ?_ | refine Run.go rfl ?_ | refine Cont.go rfl ?_ | refine OrdP.go ?_)
    refine ⟨show ((List.take n (List.map enc xs)).length + 1) * 40 ≤ _ by simp; omega, ?_⟩
    repeat (first | refine Ops.go ?_ | refine And.intro rfl ?_ | refine And.intro (Nat.le_of_ble_eq_true rfl) ?_ | refine And.intro (Int.natCast_nonneg _) ?_ | refine fun (_ : Nat) => ?_ | refine Ord.go ?_ | refine Run.go rfl ?_ | refine Cont.go rfl ?_ | refine OrdP.go ?_)
    refine ⟨show (n : Int) ≤ ((_ : Nat) : Int) by rw [List.length_append]; show (n : Int) ≤ (((List.take n (List.map enc xs)).length + 1 : Nat) : Int); simp; omega, ?_⟩
    repeat (first | refine Ops.go ?_ | refine And.intro rfl ?_ | refine And.intro (Nat.le_of_ble_eq_true rfl) ?_ | refine And.intro (Int.natCast_nonneg _) ?_ | refine fun (_ : Nat) => ?_ | refine Ord.go ?_ | refine Run.go rfl ?_ | refine Cont.go rfl ?_ | refine OrdP.go ?_)
    exact ⟨shot st pl kd (.sl 0 _ _ n), _, FinOk.keep _ [2] (Sub.aggs ⟨Sub.refl _, Sub.refl _, Sub.refl _, Sub.sl _ 0 _ _ _, trivial⟩) (by decide) rfl, _, _, rfl,
      congrArg (fun l => [(_, AObj.row 50 3 _ l)]) (show List.take n (List.map enc xs) ++ [enc mark] = _ by simp [List.map_take])⟩

theorem sn_eq (x y : Sn) : allEq [.str x.p, .str x.d, .int .i64 x.v] [.str y.p, .str y.d, .int .i64 y.v] ↔ x = y := by
  cases x; cases y; simp [allEq, eq1]

theorem take_eq_upto {xs ys : List Sn} {n : Nat} (h : ∀ j < n, xs[j]? = ys[j]?) : xs.take n = ys.take n := by
  apply List.ext_getElem?
  intro j
  rw [List.getElem?_take, List.getElem?_take]
  split
  · exact h j (by assumption)
  · rfl

abbrev sameB (pl : ByteArray) (kd : Int) (xs : List Sn) (pl' : ByteArray) (kd' : Int) (ys : List Sn) : Prop := pl = pl' ∧ kd = kd' ∧ xs = ys
noncomputable instance decSame (pl : ByteArray) (kd : Int) (xs : List Sn) (pl' : ByteArray) (kd' : Int) (ys : List Sn) : Decidable (sameB pl kd xs pl' kd' ys) := Classical.propDecidable _

theorem refSame_spec (st st' : Int) (pl pl' : ByteArray) (kd kd' : Int) (xs ys : List Sn) (n m : Nat) (hx : n ≤ xs.length) (hy : m ≤ ys.length) (hn : n ≤ 100) :
    FnSpec C 47 [shot st pl kd (rdo xs n), shot st' pl' kd' (rdo ys m)] [] (fun r L' => r = .bool (decide (sameB pl kd (xs.take n) pl' kd' (ys.take m))) ∧ L' = []) := by
  refine FnSpec.start C_ok Tryd.func47 rfl rfl Tryd.ntmps47 ?_
  have no : ¬ sameB pl kd (xs.take n) pl' kd' (ys.take m) → false = decide (sameB pl kd (xs.take n) pl' kd' (ys.take m)) := fun h => (decide_eq_false h).symm
  repeat (first | refine Ops.go ?_ | refine And.intro rfl ?_ | refine And.intro (Nat.le_of_ble_eq_true rfl) ?_ | refine And.intro (Int.natCast_nonneg _) ?_ | refine Ord.go ?_ | refine Run.go rfl ?_ | refine Cont.go rfl ?_ | refine OrdP.go ?_)
  refine fun g1 => ?_
  repeat (first | refine Ops.go ?_ | refine And.intro rfl ?_ | refine And.intro (Nat.le_of_ble_eq_true rfl) ?_ | refine And.intro (Int.natCast_nonneg _) ?_ | refine Ord.go ?_ | refine Run.go rfl ?_ | refine Cont.go rfl ?_ | refine OrdP.go ?_)
  refine fun g2 => ?_
  repeat (first | refine Ops.go ?_ | refine And.intro rfl ?_ | refine And.intro (Nat.le_of_ble_eq_true rfl) ?_ | refine And.intro (Int.natCast_nonneg _) ?_ | refine fun (_ : Nat) => ?_ | refine Ord.go ?_ | refine Run.go rfl ?_ | refine Cont.go rfl ?_ | refine OrdP.go ?_)
  refine ⟨fun h => ?_, fun h => ?_⟩
  · have h : pl ≠ pl' := h
    repeat (first | refine Ops.go ?_ | refine And.intro rfl ?_ | refine And.intro (Nat.le_of_ble_eq_true rfl) ?_ | refine And.intro (Int.natCast_nonneg _) ?_ | refine fun (_ : Nat) => ?_ | refine Ord.go ?_ | refine Run.go rfl ?_ | refine Cont.go rfl ?_ | refine OrdP.go ?_)
    exact ⟨_, [], FinOk.drop _ _, congrArg AV.bool (no (fun e => h e.1)), rfl⟩
  have h : pl = pl' := Classical.not_not.1 h
  subst h
  repeat (first | refine Ops.go ?_ | refine And.intro rfl ?_ | refine And.intro (Nat.le_of_ble_eq_true rfl) ?_ | refine And.intro (Int.natCast_nonneg _) ?_ | refine fun (_ : Nat) => ?_ | refine Ord.go ?_ | refine Run.go rfl ?_ | refine Cont.go rfl ?_ | refine OrdP.go ?_)
  refine ⟨fun h => ?_, fun h => ?_⟩
  · have h : kd ≠ kd' := h
    repeat (first | refine Ops.go ?_ | refine And.intro rfl ?_ | refine And.intro (Nat.le_of_ble_eq_true rfl) ?_ | refine And.intro (Int.natCast_nonneg _) ?_ | refine fun (_ : Nat) => ?_ | refine Ord.go ?_ | refine Run.go rfl ?_ | refine Cont.go rfl ?_ | refine OrdP.go ?_)
    exact ⟨_, [], FinOk.drop _ _, congrArg AV.bool (no (fun e => h e.2.1)), rfl⟩
  have h : kd = kd' := Classical.not_not.1 h
  subst h
  repeat (first | refine Ops.go ?_ | refine And.intro rfl ?_ | refine And.intro (Nat.le_of_ble_eq_true rfl) ?_ | refine And.intro (Int.natCast_nonneg _) ?_ | refine fun (_ : Nat) => ?_ | refine Ord.go ?_ | refine Run.go rfl ?_ | refine Cont.go rfl ?_ | refine OrdP.go ?_)
  refine ⟨fun h => ?_, fun h => ?_⟩
  · have h : (n : Int) ≠ (m : Int) := h
    repeat (first | refine Ops.go ?_ | refine And.intro rfl ?_ | refine And.intro (Nat.le_of_ble_eq_true rfl) ?_ | refine And.intro (Int.natCast_nonneg _) ?_ | refine fun (_ : Nat) => ?_ | refine Ord.go ?_ | refine Run.go rfl ?_ | refine Cont.go rfl ?_ | refine OrdP.go ?_)
    exact ⟨_, [], FinOk.drop _ _, congrArg AV.bool (no (by
      rintro ⟨_, _, e⟩
      have := congrArg List.length e
      rw [List.length_take, List.length_take] at this
      omega)), rfl⟩
  have h : ¬ ((n : Int) ≠ (m : Int)) := h
  have h : n = m := by omega
  subst h
  repeat (first | refine Ops.go ?_ | refine And.intro rfl ?_ | refine And.intro (Nat.le_of_ble_eq_true rfl) ?_ | refine And.intro (Int.natCast_nonneg _) ?_ | refine fun (_ : Nat) => ?_ | refine Ord.go ?_ | refine Run.go rfl ?_ | refine Cont.go rfl ?_ | refine OrdP.go ?_)
  refine Run.loop (fun k env L => ∃ i : Nat, k = n - i ∧ i ≤ n ∧ (∀ j < i, xs[j]? = ys[j]?) ∧ env = [.junk, .junk, .ptr 0 g1 0, .ptr 1 g2 0, .junk, .int .i64 i, .junk, .junk, .junk, .junk, .junk, .junk, .junk, .junk, .junk, .junk, .junk, .junk, .junk, .junk, .junk, .junk, .junk, .junk, .junk, .junk, .junk, .junk, .junk, .junk, .junk, .junk, .junk, .junk, .junk, .junk, .junk, .junk, .junk, .junk, .junk, .junk, .junk, .junk, .junk] ∧ L = [(g1, .cells 24 [.int .i64 st, .str pl, .int .i64 kd, rdo xs n]), (g2, .cells 24 [.int .i64 st', .str pl, .int .i64 kd, rdo ys n])]) n [.junk, .junk, .ptr 0 g1 0, .ptr 1 g2 0, .junk, .int .i64 0, .junk, .junk, .junk, .junk, .junk, .junk, .junk, .junk, .junk, .junk, .junk, .junk, .junk, .junk, .junk, .junk, .junk, .junk, .junk, .junk, .junk, .junk, .junk, .junk, .junk, .junk, .junk, .junk, .junk, .junk, .junk, .junk, .junk, .junk, .junk, .junk, .junk, .junk, .junk] ?_ ⟨0, by omega, by omega, (fun j hj => absurd hj (Nat.not_lt_zero j)), rfl, rfl⟩ ?_
  · repeat (first | exact trivial | refine ⟨.inl rfl, ?_⟩ | refine ⟨.inr rfl, ?_⟩)
  rintro k env L ⟨i, rfl, hi, hP, rfl, rfl⟩
  repeat (first | refine Ops.go ?_ | refine And.intro rfl ?_ | refine And.intro (Nat.le_of_ble_eq_true rfl) ?_ | refine And.intro (Int.natCast_nonneg _) ?_ | refine fun (_ : Nat) => ?_ | refine Ord.go ?_ | refine Run.go rfl ?_ | refine Cont.go rfl ?_ | refine OrdP.go ?_)
  refine ⟨fun h => ?_, fun h => ?_⟩
  · have h : (i : Int) < (n : Int) := h
    have hin : i < n := by omega
    obtain ⟨x, ex⟩ : ∃ x, xs[i]? = some x := ⟨xs[i], List.getElem?_eq_getElem (by omega)⟩
    obtain ⟨y, ey⟩ : ∃ y, ys[i]? = some y := ⟨ys[i], List.getElem?_eq_getElem (by omega)⟩
    repeat (first | refine Ops.go ?_ | refine And.intro rfl ?_ | refine And.intro (Nat.le_of_ble_eq_true rfl) ?_ | refine And.intro (Int.natCast_nonneg _) ?_ | refine fun (_ : Nat) => ?_ | refine Ord.go ?_ | refine Run.go rfl ?_ | refine Cont.go rfl ?_ | refine OrdP.go ?_)
    refine Run.drawn true [0, 1, 2, 3, 4, 5, 6, 7, 8, 9, 10] (by kernel_rfl) ?_
    repeat (first | refine Ops.go ?_ | refine And.intro rfl ?_ | refine And.intro (Nat.le_of_ble_eq_true rfl) ?_ | refine And.intro (Int.natCast_nonneg _) ?_ | refine fun (_ : Nat) => ?_ | refine Ord.go ?_ | refine Run.go rfl ?_ | refine Cont.go rfl ?_ | refine OrdP.go ?_)
    refine ⟨h, enc x, enc_at _ _ _ ex, ?_⟩
    repeat (first | refine Ops.go ?_ | refine And.intro rfl ?_ | refine And.intro (Nat.le_of_ble_eq_true rfl) ?_ | refine And.intro (Int.natCast_nonneg _) ?_ | refine fun (_ : Nat) => ?_ | refine Ord.go ?_ | refine Run.go rfl ?_ | refine Cont.go rfl ?_ | refine OrdP.go ?_)
    refine ⟨h, enc y, enc_at _ _ _ ey, ?_⟩
    repeat (first | refine Ops.go ?_ | refine And.intro rfl ?_ | refine And.intro (Nat.le_of_ble_eq_true rfl) ?_ | refine And.intro (Int.natCast_nonneg _) ?_ | refine fun (_ : Nat) => ?_ | refine Ord.go ?_ | refine Run.go rfl ?_ | refine Cont.go rfl ?_ | refine OrdP.go ?_)
    refine ⟨fun hne => ?_, fun heq => ?_⟩
    · repeat (first | refine Ops.go ?_ | refine And.intro rfl ?_ | refine And.intro (Nat.le_of_ble_eq_true rfl) ?_ | refine And.intro (Int.natCast_nonneg _) ?_ | refine fun (_ : Nat) => ?_ | refine Ord.go ?_ | refine Run.go rfl ?_ | refine Cont.go rfl ?_ | refine OrdP.go ?_)
      exact ⟨_, [], FinOk.drop _ _, congrArg AV.bool (no (by
        have hne : ¬ (x = y) := fun e => hne ((sn_eq x y).2 e)
        rintro ⟨_, _, e⟩
        have := congrArg (·[i]?) e
        simp only [List.getElem?_take, hin, if_true, ex, ey, Option.some.injEq] at this
        exact hne this)), rfl⟩
    · have heq : x = y := (sn_eq x y).1 (Classical.not_not.1 heq)
      repeat (first | refine Ops.go ?_ | refine And.intro rfl ?_ | refine And.intro (Nat.le_of_ble_eq_true rfl) ?_ | refine And.intro (Int.natCast_nonneg _) ?_ | refine fun (_ : Nat) => ?_ | refine Ord.go ?_ | refine Run.go rfl ?_ | refine Cont.go rfl ?_ | refine OrdP.go ?_)
      refine fun r hr => ?_
      obtain rfl := add1 hr (by omega)
      repeat (first | refine Ops.go ?_ | refine And.intro rfl ?_ | refine And.intro (Nat.le_of_ble_eq_true rfl) ?_ | refine And.intro (Int.natCast_nonneg _) ?_ | refine fun (_ : Nat) => ?_ | refine Ord.go ?_ | refine Run.go rfl ?_ | refine Cont.go rfl ?_ | refine OrdP.go ?_)
      refine Cont.lp ?_
      refine ⟨n - (i + 1), _, 99, by omega, ?_, ⟨i + 1, rfl, by omega, ?_, rfl, rfl⟩⟩
      · repeat (first | exact trivial | refine ⟨.inl rfl, ?_⟩ | refine ⟨.inr rfl, ?_⟩)
      · intro j hj
        by_cases e : j = i
        · subst e; rw [ex, ey, heq]
        · exact hP j (by omega)
  · have h : ¬ (i : Int) < (n : Int) := h
    repeat (first | refine Ops.go ?_ | refine And.intro rfl ?_ | refine And.intro (Nat.le_of_ble_eq_true rfl) ?_ | refine And.intro (Int.natCast_nonneg _) ?_ | refine fun (_ : Nat) => ?_ | refine Ord.go ?_ | refine Run.go rfl ?_ | refine Cont.go rfl ?_ | refine OrdP.go ?_)
    exact ⟨_, [], FinOk.drop _ _, congrArg AV.bool (show true = _ by
      symm
      rw [decide_eq_true_iff]
      exact ⟨rfl, rfl, take_eq_upto (fun j hj => hP j (by omega))⟩), rfl⟩

abbrev alikeP (st : Int) (pl : ByteArray) (kd : Int) (xs : List Sn) (st' : Int) (pl' : ByteArray) (kd' : Int) (ys : List Sn) : Prop := st = st' ∧ sameB pl kd xs pl' kd' ys

theorem alike_spec (st st' : Int) (pl pl' : ByteArray) (kd kd' : Int) (xs ys : List Sn) (n m : Nat) (hx : n ≤ xs.length) (hy : m ≤ ys.length) (hn : n ≤ 100) :
    FnSpec C 20 [shot st pl kd (rdo xs n), shot st' pl' kd' (rdo ys m)] [] (fun r L' => r = .bool (decide (alikeP st pl kd (xs.take n) st' pl' kd' (ys.take m))) ∧ L' = []) := by
  refine FnSpec.start C_ok Tryd.func20 rfl rfl Tryd.ntmps20 ?_
  repeat (first | refine Ops.go ?_ | refine And.intro rfl ?_ | refine And.intro (Nat.le_of_ble_eq_true rfl) ?_ | refine And.intro (Int.natCast_nonneg _) ?_ | refine Ord.go ?_ | refine Run.go rfl ?_ | refine Cont.go rfl ?_ | refine OrdP.go ?_)
  refine fun g1 => ?_
  repeat (first | refine Ops.go ?_ | refine And.intro rfl ?_ | refine And.intro (Nat.le_of_ble_eq_true rfl) ?_ | refine And.intro (Int.natCast_nonneg _) ?_ | refine Ord.go ?_ | refine Run.go rfl ?_ | refine Cont.go rfl ?_ | refine OrdP.go ?_)
  refine fun g2 => ?_
  repeat (first | refine Ops.go ?_ | refine And.intro rfl ?_ | refine And.intro (Nat.le_of_ble_eq_true rfl) ?_ | refine And.intro (Int.natCast_nonneg _) ?_ | refine fun (_ : Nat) => ?_ | refine Ord.go ?_ | refine Run.go rfl ?_ | refine Cont.go rfl ?_ | refine OrdP.go ?_)
  refine ⟨fun h => ?_, fun h => ?_⟩
  case' refine_2 =>
    have h : st ≠ st' := h
    repeat (first | refine Ops.go ?_ | refine And.intro rfl ?_ | refine And.intro (Nat.le_of_ble_eq_true rfl) ?_ | refine And.intro (Int.natCast_nonneg _) ?_ | refine fun (_ : Nat) => ?_ | refine Ord.go ?_ | refine Run.go rfl ?_ | refine Cont.go rfl ?_ | refine OrdP.go ?_)
    exact ⟨_, [], FinOk.drop _ _, congrArg AV.bool (show false = _ from (decide_eq_false (fun e => h e.1)).symm), rfl⟩
  have h : st = st' := h
  subst h
  repeat (first | refine Ops.go ?_ | refine And.intro rfl ?_ | refine And.intro (Nat.le_of_ble_eq_true rfl) ?_ | refine And.intro (Int.natCast_nonneg _) ?_ | refine fun (_ : Nat) => ?_ | refine Ord.go ?_ | refine Run.go rfl ?_ | refine Cont.go rfl ?_ | refine OrdP.go ?_)
  refine ACall.ret (refSame_spec st st pl pl' kd kd' xs ys n m hx hy hn) ?_
  repeat (first | refine Ops.go ?_ | refine And.intro rfl ?_ | refine And.intro (Nat.le_of_ble_eq_true rfl) ?_ | refine And.intro (Int.natCast_nonneg _) ?_ | refine fun (_ : Nat) => ?_ | refine Ord.go ?_ | refine Run.go rfl ?_ | refine Cont.go rfl ?_ | refine OrdP.go ?_)
  exact ⟨_, [], FinOk.drop _ _, congrArg AV.bool (decide_eq_decide.2 ⟨fun h => ⟨rfl, h⟩, fun h => h.2⟩), rfl⟩

theorem untouched_spec (st st' : Int) (pl pl' : ByteArray) (kd kd' : Int) (xs ys : List Sn) (n m : Nat) (hx : n ≤ xs.length) (hy : m ≤ ys.length) (hn : n ≤ 100) (hm : m + 1 ≤ xs.length) (hm' : m ≤ 100) :
    FnSpec C 28 [shot st pl kd (rdo xs n), shot st' pl' kd' (rdo ys m)] [] (fun r L' => r = .bool (decide (alikeP st pl kd (xs.take n) st' pl' kd' (ys.take m) ∧ xs[m]? = some mark)) ∧ L' = []) := by
  refine FnSpec.start C_ok Tryd.func28 rfl rfl Tryd.ntmps28 ?_
  repeat (first | refine Ops.go ?_ | refine And.intro rfl ?_ | refine And.intro (Nat.le_of_ble_eq_true rfl) ?_ | refine And.intro (Int.natCast_nonneg _) ?_ | refine Ord.go ?_ | refine Run.go rfl ?_ | refine Cont.go rfl ?_ | refine OrdP.go ?_)
  refine fun g1 => ?_
  repeat (first | refine Ops.go ?_ | refine And.intro rfl ?_ | refine And.intro (Nat.le_of_ble_eq_true rfl) ?_ | refine And.intro (Int.natCast_nonneg _) ?_ | refine Ord.go ?_ | refine Run.go rfl ?_ | refine Cont.go rfl ?_ | refine OrdP.go ?_)
  refine fun g2 => ?_
  repeat (first | refine Ops.go ?_ | refine And.intro rfl ?_ | refine And.intro (Nat.le_of_ble_eq_true rfl) ?_ | refine And.intro (Int.natCast_nonneg _) ?_ | refine fun (_ : Nat) => ?_ | refine Ord.go ?_ | refine Run.go rfl ?_ | refine Cont.go rfl ?_ | refine OrdP.go ?_)
  refine fun r hr => ?_
  obtain rfl := add1 hr (by omega)
  repeat (first | refine Ops.go ?_ | refine And.intro rfl ?_ | refine And.intro (Nat.le_of_ble_eq_true rfl) ?_ | refine And.intro (Int.natCast_nonneg _) ?_ | refine fun (_ : Nat) => ?_ | refine Ord.go ?_ | refine Run.go rfl ?_ | refine Cont.go rfl ?_ | refine OrdP.go ?_)
  refine ⟨show ((m + 1 : Nat) : Int) ≤ ((List.map enc xs).length : Int) by simp; omega, ?_⟩
  have hs := alike_spec st st' pl pl' kd kd' xs ys n m hx hy hn
  obtain ⟨x, ex⟩ : ∃ x, xs[m]? = some x := ⟨xs[m], List.getElem?_eq_getElem (by omega)⟩
  repeat (first | refine Ops.go ?_ | refine And.intro rfl ?_ | refine And.intro (Nat.le_of_ble_eq_true rfl) ?_ | refine And.intro (Int.natCast_nonneg _) ?_ | refine fun (_ : Nat) => ?_ | refine Ord.go ?_ | refine Run.go rfl ?_ | refine Cont.go rfl ?_ | refine OrdP.go ?_)
  refine Run.drawn true [0, 1, 2, 3, 4, 5, 6, 7, 8, 9, 10, 11] (by kernel_rfl) ?_
  cases hb : decide (alikeP st pl kd (xs.take n) st' pl' kd' (ys.take m)) with
  | false =>
    rw [hb] at hs
    repeat (first | refine Ops.go ?_ | refine And.intro rfl ?_ | refine And.intro (Nat.le_of_ble_eq_true rfl) ?_ | refine And.intro (Int.natCast_nonneg _) ?_ | refine fun (_ : Nat) => ?_ | refine Ord.go ?_ | refine Run.go rfl ?_ | refine Cont.go rfl ?_ | refine OrdP.go ?_)
    refine ACallQ.ret hs ?_
    repeat (first | refine Ops.go ?_ | refine And.intro rfl ?_ | refine And.intro (Nat.le_of_ble_eq_true rfl) ?_ | refine And.intro (Int.natCast_nonneg _) ?_ | refine fun (_ : Nat) => ?_ | refine Ord.go ?_ | refine Run.go rfl ?_ | refine Cont.go rfl ?_ | refine OrdP.go ?_)
    exact ⟨_, [], FinOk.drop _ _, congrArg AV.bool (show false = _ from (decide_eq_false (fun e => of_decide_eq_false hb e.1)).symm), rfl⟩
  | true =>
    rw [hb] at hs
    repeat (first | refine Ops.go ?_ | refine And.intro rfl ?_ | refine And.intro (Nat.le_of_ble_eq_true rfl) ?_ | refine And.intro (Int.natCast_nonneg _) ?_ | refine fun (_ : Nat) => ?_ | refine Ord.go ?_ | refine Run.go rfl ?_ | refine Cont.go rfl ?_ | refine OrdP.go ?_)
    refine ACallQ.ret hs ?_
    repeat (first | refine Ops.go ?_ | refine And.intro rfl ?_ | refine And.intro (Nat.le_of_ble_eq_true rfl) ?_ | refine And.intro (Int.natCast_nonneg _) ?_ | refine fun (_ : Nat) => ?_ | refine Ord.go ?_ | refine Run.go rfl ?_ | refine Cont.go rfl ?_ | refine OrdP.go ?_)
    refine ⟨show (m : Int) < (((m + 1 : Nat) : Int) - 0).toNat by omega, enc x, ?_, ?_⟩
    · simpa using enc_at _ _ _ ex
    repeat (first | refine Ops.go ?_ | refine And.intro rfl ?_ | refine And.intro (Nat.le_of_ble_eq_true rfl) ?_ | refine And.intro (Int.natCast_nonneg _) ?_ | refine fun (_ : Nat) => ?_ | refine Ord.go ?_ | refine Run.go rfl ?_ | refine Cont.go rfl ?_ | refine OrdP.go ?_)
    refine ACallQ.ret mark_spec ?_
    repeat (first | refine Ops.go ?_ | refine And.intro rfl ?_ | refine And.intro (Nat.le_of_ble_eq_true rfl) ?_ | refine And.intro (Int.natCast_nonneg _) ?_ | refine fun (_ : Nat) => ?_ | refine Ord.go ?_ | refine Run.go rfl ?_ | refine Cont.go rfl ?_ | refine OrdP.go ?_)
    refine ⟨fun h => ?_, fun h => ?_⟩
    · have h : x = mark := (sn_eq x mark).1 h
      repeat (first | refine Ops.go ?_ | refine And.intro rfl ?_ | refine And.intro (Nat.le_of_ble_eq_true rfl) ?_ | refine And.intro (Int.natCast_nonneg _) ?_ | refine fun (_ : Nat) => ?_ | refine Ord.go ?_ | refine Run.go rfl ?_ | refine Cont.go rfl ?_ | refine OrdP.go ?_)
      exact ⟨_, [], FinOk.drop _ _, congrArg AV.bool (show true = _ from (decide_eq_true ⟨of_decide_eq_true hb, by rw [ex, h]⟩).symm), rfl⟩
    · have h : x ≠ mark := fun e => h ((sn_eq x mark).2 e)
      repeat (first | refine Ops.go ?_ | refine And.intro rfl ?_ | refine And.intro (Nat.le_of_ble_eq_true rfl) ?_ | refine And.intro (Int.natCast_nonneg _) ?_ | refine fun (_ : Nat) => ?_ | refine Ord.go ?_ | refine Run.go rfl ?_ | refine Cont.go rfl ?_ | refine OrdP.go ?_)
      exact ⟨_, [], FinOk.drop _ _, congrArg AV.bool (show false = _ from (decide_eq_false (fun e => h (Option.some.inj (ex.symm.trans e.2)))).symm), rfl⟩

end Go.Proofs.YtfohedaadncefaaDoor.HBT
/- Numbers as bytes: the plain law, and the contracts of the program's and of the document's own text. -/
namespace Go.Proofs.YtfohedaadncefaaDoor.HBT
open Go Go.Proofs.YtfohedaadncefaaDoor.HB Go.RowKit
set_option maxRecDepth 8000

/-- A number's bytes, so many steps at most. -/
def numF : Nat → Nat → List Int
  | 0, v => [(v : Int)]
  | f + 1, v => if v < 128 then [(v : Int)] else ((v % 128 + 128 : Nat) : Int) :: numF f (v / 128)
def numI (v : Nat) : List Int := numF 4 v
abbrev u8s (l : List Int) : List AV := l.map (.int .u8)
theorem numF_small : ∀ (f v : Nat), v < 128 → numF f v = [(v : Int)]
  | 0, v, _ => rfl
  | f + 1, v, h => by unfold numF; rw [if_pos h]
theorem numF_step (f v : Nat) (h : ¬ v < 128) : numF (f + 1) v = ((v % 128 + 128 : Nat) : Int) :: numF f (v / 128) := by
  conv => lhs; unfold numF
  rw [if_neg h]
theorem numF_len : ∀ (f v : Nat), 1 ≤ (numF f v).length ∧ (numF f v).length ≤ f + 1
  | 0, v => by simp [numF]
  | f + 1, v => by
    have := numF_len f (v / 128)
    unfold numF
    split <;> simp <;> omega
theorem numI_len (v : Nat) : 1 ≤ (numI v).length ∧ (numI v).length ≤ 5 := numF_len 4 v
/-- What the loops hold: what is written, what is left. -/
structure NumAt (v0 : Nat) (acc : List Int) (f v : Nat) : Prop where
  eq : numI v0 = acc ++ numF f v
  lt : v < 128 ^ (f + 1)
  len : acc.length + f = 4
theorem NumAt.zero {v : Nat} (h : v ≤ 2147483647) : NumAt v [] 4 v := ⟨rfl, by omega, rfl⟩
theorem NumAt.step {v0 : Nat} {acc : List Int} {f v : Nat} (h : NumAt v0 acc f v) (hv : ¬ v < 128) : ∃ f', f = f' + 1 ∧ NumAt v0 (acc ++ [((v % 128 + 128 : Nat) : Int)]) f' (v / 128) := by
  cases f with
  | zero => exact absurd (by simpa using h.lt) hv
  | succ f =>
    refine ⟨f, rfl, ?_, ?_, by have := h.len; simp; omega⟩
    · rw [h.eq, numF_step f v hv]; simp
    · rw [Nat.div_lt_iff_lt_mul (by decide)]
      have := h.lt
      rw [Nat.pow_succ] at this
      exact this
theorem NumAt.done {v0 : Nat} {acc : List Int} {f v : Nat} (h : NumAt v0 acc f v) (hv : v < 128) : numI v0 = acc ++ [(v : Int)] := by rw [h.eq, numF_small f v hv]

theorem or128_all : ((List.range 256).all fun x => bitsV .or .u8 (x : Int) 128 == ((x % 128 + 128 : Nat) : Int)) = true := by decide +kernel
theorem or128 (v : Nat) : bitsV .or .u8 ((v % 256 : Nat) : Int) 128 = ((v % 128 + 128 : Nat) : Int) := by
  have := List.all_eq_true.1 or128_all (v % 256) (List.mem_range.2 (Nat.mod_lt _ (by decide)))
  rw [beq_iff_eq] at this
  rw [this]
  omega
theorem wrap_u8 (v : Nat) : IntKind.u8.wrap (v : Int) = ((v % 256 : Nat) : Int) := by
  simp [IntKind.wrap, IntKind.signed, IntKind.bits]
theorem shr7 (v : Nat) : (v : Int).fdiv (2 ^ (min (7 : Int).toNat IntKind.i64.bits)) = ((v / 128 : Nat) : Int) := by
  have e : ((2 : Int) ^ (min (7 : Int).toNat IntKind.i64.bits)) = ((128 : Nat) : Int) := by decide
  rw [e, Int.fdiv_eq_ediv_of_nonneg _ (by decide)]
  rfl

theorem number_spec (v0 : Nat) (hv0 : v0 ≤ 2147483647) : FnSpec C 66 [.int .i64 v0] [] (fun r L' => ∃ g Cp, r = .tuple [.sl 0 g Cp (numI v0).length, .int .i64 0] ∧ L' = [(g, .row 5 1 Cp (u8s (numI v0)))]) := by
  refine FnSpec.start C_ok Tryd.func66 rfl rfl Tryd.ntmps66 ?_
  repeat (first | refine Ops.go ?_ | refine And.intro rfl ?_ | refine And.intro (Nat.le_of_ble_eq_true rfl) ?_ | refine And.intro (Int.natCast_nonneg _) ?_ | refine fun (_ : Nat) => ?_ | refine Ord.go ?_ | refine Run.go rfl ?_ | refine Cont.go rfl ?_ | refine OrdP.go ?_)
  refine ⟨fun h => absurd (show (v0 : Int) < 0 from h) (by omega), fun _ => ?_⟩
  repeat (first | refine Ops.go ?_ | refine And.intro rfl ?_ | refine And.intro (Nat.le_of_ble_eq_true rfl) ?_ | refine And.intro (Int.natCast_nonneg _) ?_ | refine fun (_ : Nat) => ?_ | refine Ord.go ?_ | refine Run.go rfl ?_ | refine Cont.go rfl ?_ | refine OrdP.go ?_)
  refine ⟨fun h => absurd (show (2147483647 : Int) < v0 from h) (by omega), fun _ => ?_⟩
  repeat (first | refine Ops.go ?_ | refine And.intro rfl ?_ | refine And.intro (Nat.le_of_ble_eq_true rfl) ?_ | refine And.intro (Int.natCast_nonneg _) ?_ | refine fun (_ : Nat) => ?_ | refine Ord.go ?_ | refine Run.go rfl ?_ | refine Cont.go rfl ?_ | refine OrdP.go ?_)
  refine Run.loop (fun k env L => ∃ (f v : Nat) (acc : List Int), k = f ∧ NumAt v0 acc f v ∧ v ≤ 2147483647 ∧
      ((acc = [] ∧ env = [.int .i64 v, .junk, .junk, .junk, .nils, .junk, .junk, .junk, .junk, .junk, .junk, .junk, .junk, .junk, .junk, .junk, .junk, .junk, .junk, .junk, .junk, .junk, .junk, .junk, .junk, .junk] ∧ L = []) ∨ (acc ≠ [] ∧ ∃ x0 g Cp, env = [.int .i64 v, .junk, .junk, .junk, .sl 1 g Cp acc.length, .junk, .junk, .junk, .junk, .junk, .junk, .junk, .junk, .junk, .junk, .junk, .junk, .junk, .junk, .junk, .junk, .junk, .junk, .junk, .junk, .junk] ∧ L = [x0, (g, .row 5 1 Cp (u8s acc))])))
    4 [.int .i64 v0, .junk, .junk, .junk, .nils, .junk, .junk, .junk, .junk, .junk, .junk, .junk, .junk, .junk, .junk, .junk, .junk, .junk, .junk, .junk, .junk, .junk, .junk, .junk, .junk, .junk] ?_ ⟨4, v0, [], rfl, .zero hv0, hv0, .inl ⟨rfl, rfl, rfl⟩⟩ ?_
  · repeat (first | exact trivial | refine ⟨.inl rfl, ?_⟩ | refine ⟨.inr rfl, ?_⟩)
  rintro k env L ⟨f, v, acc, rfl, hat, hv, hshape⟩
  have vlast : v < 128 → ((v % 256 : Nat) : Int) = (v : Int) := fun h => by omega
  have hle : acc.length ≤ 4 := by have := hat.len; omega
  rcases hshape with ⟨rfl, rfl, rfl⟩ | ⟨hne, x0, g, Cp, rfl, rfl⟩
  · repeat (first | refine Ops.go ?_ | refine And.intro rfl ?_ | refine And.intro (Nat.le_of_ble_eq_true rfl) ?_ | refine And.intro (Int.natCast_nonneg _) ?_ | refine fun (_ : Nat) => ?_ | refine Ord.go ?_ | refine Run.go rfl ?_ | refine Cont.go rfl ?_ | refine OrdP.go ?_)
    refine ⟨fun h => ?_, fun h => ?_⟩
    · have h : (128 : Int) ≤ (v : Int) := h
      obtain ⟨f', rfl, hat'⟩ := hat.step (by omega)
      repeat (first | refine Ops.go ?_ | refine And.intro rfl ?_ | refine And.intro (Nat.le_of_ble_eq_true rfl) ?_ | refine And.intro (Int.natCast_nonneg _) ?_ | refine fun (_ : Nat) => ?_ | refine Ord.go ?_ | refine Run.go rfl ?_ | refine Cont.go rfl ?_ | refine OrdP.go ?_)
      refine fun r hr => ?_
      obtain rfl := hr.trans (wrap_u8 v)
      repeat (first | refine Ops.go ?_ | refine And.intro rfl ?_ | refine And.intro (Nat.le_of_ble_eq_true rfl) ?_ | refine And.intro (Int.natCast_nonneg _) ?_ | refine fun (_ : Nat) => ?_ | refine Ord.go ?_ | refine Run.go rfl ?_ | refine Cont.go rfl ?_ | refine OrdP.go ?_)
      refine fun r hr => ?_
      obtain rfl := hr.trans (or128 v)
      repeat (first | refine Ops.go ?_ | refine And.intro rfl ?_ | refine And.intro (Nat.le_of_ble_eq_true rfl) ?_ | refine And.intro (Int.natCast_nonneg _) ?_ | refine fun (_ : Nat) => ?_ | refine Ord.go ?_ | refine Run.go rfl ?_ | refine Cont.go rfl ?_ | refine OrdP.go ?_)
      refine ⟨fun h => absurd h (List.cons_ne_nil _ _), fun _ => ?_⟩
      repeat (first | refine Ops.go ?_ | refine And.intro rfl ?_ | refine And.intro (Nat.le_of_ble_eq_true rfl) ?_ | refine And.intro (Int.natCast_nonneg _) ?_ | refine fun (_ : Nat) => ?_ | refine Ord.go ?_ | refine Run.go rfl ?_ | refine Cont.go rfl ?_ | refine OrdP.go ?_)
      refine fun r hr => ?_
      obtain rfl := hr.trans (shr7 v)
      repeat (first | refine Ops.go ?_ | refine And.intro rfl ?_ | refine And.intro (Nat.le_of_ble_eq_true rfl) ?_ | refine And.intro (Int.natCast_nonneg _) ?_ | refine fun (_ : Nat) => ?_ | refine Ord.go ?_ | refine Run.go rfl ?_ | refine Cont.go rfl ?_ | refine OrdP.go ?_)
      refine Cont.lp ?_
      refine ⟨f', [.int .i64 (v / 128 : Nat), .junk, .junk, .junk, .sl 1 _ _ ([((v % 128 + 128 : Nat) : Int)] : List Int).length, .junk, .junk, .junk, .junk, .junk, .junk, .junk, .junk, .junk, .junk, .junk, .junk, .junk, .junk, .junk, .junk, .junk, .junk, .junk, .junk, .junk], 2, by omega, ?_, ⟨f', v / 128, [((v % 128 + 128 : Nat) : Int)], rfl, hat', by omega, .inr ⟨by simp, _, _, _, rfl, rfl⟩⟩⟩
      repeat (first | exact trivial | refine ⟨.inl rfl, ?_⟩ | refine ⟨.inr rfl, ?_⟩)
    · have h : ¬ (128 : Int) ≤ (v : Int) := h
      have hd := hat.done (by omega)
      repeat (first | refine Ops.go ?_ | refine And.intro rfl ?_ | refine And.intro (Nat.le_of_ble_eq_true rfl) ?_ | refine And.intro (Int.natCast_nonneg _) ?_ | refine fun (_ : Nat) => ?_ | refine Ord.go ?_ | refine Run.go rfl ?_ | refine Cont.go rfl ?_ | refine OrdP.go ?_)
      refine fun r hr => ?_
      obtain rfl := hr.trans (wrap_u8 v)
      repeat (first | refine Ops.go ?_ | refine And.intro rfl ?_ | refine And.intro (Nat.le_of_ble_eq_true rfl) ?_ | refine And.intro (Int.natCast_nonneg _) ?_ | refine fun (_ : Nat) => ?_ | refine Ord.go ?_ | refine Run.go rfl ?_ | refine Cont.go rfl ?_ | refine OrdP.go ?_)
      refine ⟨fun h => absurd h (List.cons_ne_nil _ _), fun _ => ?_⟩
      repeat (first | refine Ops.go ?_ | refine And.intro rfl ?_ | refine And.intro (Nat.le_of_ble_eq_true rfl) ?_ | refine And.intro (Int.natCast_nonneg _) ?_ | refine fun (_ : Nat) => ?_ | refine Ord.go ?_ | refine Run.go rfl ?_ | refine Cont.go rfl ?_ | refine OrdP.go ?_)
      refine ⟨.tuple [.sl 0 _ _ ([(v : Int)] : List Int).length, .int .i64 0], _, FinOk.keep _ [1] (Sub.tuples ⟨Sub.sl _ _ _ _ _, Sub.refl _, trivial⟩) (by decide) rfl, _, _, by rw [hd]; rfl, by rw [hd, ← vlast (by omega)]; rfl⟩
  · repeat (first | refine Ops.go ?_ | refine And.intro rfl ?_ | refine And.intro (Nat.le_of_ble_eq_true rfl) ?_ | refine And.intro (Int.natCast_nonneg _) ?_ | refine fun (_ : Nat) => ?_ | refine Ord.go ?_ | refine Run.go rfl ?_ | refine Cont.go rfl ?_ | refine OrdP.go ?_)
    refine ⟨fun h => ?_, fun h => ?_⟩
    · have h : (128 : Int) ≤ (v : Int) := h
      obtain ⟨f', rfl, hat'⟩ := hat.step (by omega)
      repeat (first | refine Ops.go ?_ | refine And.intro rfl ?_ | refine And.intro (Nat.le_of_ble_eq_true rfl) ?_ | refine And.intro (Int.natCast_nonneg _) ?_ | refine fun (_ : Nat) => ?_ | refine Ord.go ?_ | refine Run.go rfl ?_ | refine Cont.go rfl ?_ | refine OrdP.go ?_)
      refine fun r hr => ?_
      obtain rfl := hr.trans (wrap_u8 v)
      repeat (first | refine Ops.go ?_ | refine And.intro rfl ?_ | refine And.intro (Nat.le_of_ble_eq_true rfl) ?_ | refine And.intro (Int.natCast_nonneg _) ?_ | refine fun (_ : Nat) => ?_ | refine Ord.go ?_ | refine Run.go rfl ?_ | refine Cont.go rfl ?_ | refine OrdP.go ?_)
      refine fun r hr => ?_
      obtain rfl := hr.trans (or128 v)
      repeat (first | refine Ops.go ?_ | refine And.intro rfl ?_ | refine And.intro (Nat.le_of_ble_eq_true rfl) ?_ | refine And.intro (Int.natCast_nonneg _) ?_ | refine fun (_ : Nat) => ?_ | refine Ord.go ?_ | refine Run.go rfl ?_ | refine Cont.go rfl ?_ | refine OrdP.go ?_)
      refine ⟨(List.length_map ..).symm, show ((u8s acc).length + 1) * 1 ≤ _ by rw [List.length_map]; omega, fun g2 C2 => ?_⟩
      repeat (first | refine Ops.go ?_ | refine And.intro rfl ?_ | refine And.intro (Nat.le_of_ble_eq_true rfl) ?_ | refine And.intro (Int.natCast_nonneg _) ?_ | refine fun (_ : Nat) => ?_ | refine Ord.go ?_ | refine Run.go rfl ?_ | refine Cont.go rfl ?_ | refine OrdP.go ?_)
      refine fun r hr => ?_
      obtain rfl := hr.trans (shr7 v)
      repeat (first | refine Ops.go ?_ | refine And.intro rfl ?_ | refine And.intro (Nat.le_of_ble_eq_true rfl) ?_ | refine And.intro (Int.natCast_nonneg _) ?_ | refine fun (_ : Nat) => ?_ | refine Ord.go ?_ | refine Run.go rfl ?_ | refine Cont.go rfl ?_ | refine OrdP.go ?_)
      refine Cont.lp ?_
      refine ⟨f', [.int .i64 (v / 128 : Nat), .junk, .junk, .junk, .sl 1 g2 C2 ((u8s acc).length + 1), .junk, .junk, .junk, .junk, .junk, .junk, .junk, .junk, .junk, .junk, .junk, .junk, .junk, .junk, .junk, .junk, .junk, .junk, .junk, .junk, .junk], 2, by omega, ?_, ⟨f', v / 128, acc ++ [((v % 128 + 128 : Nat) : Int)], rfl, hat', by omega, .inr ⟨by simp, x0, g2, C2, by simp, congrArg (fun l => [x0, (g2, AObj.row 5 1 C2 l)]) (show u8s acc ++ [.int .u8 ((v % 128 + 128 : Nat) : Int)] = _ by simp)⟩⟩⟩
      repeat (first | exact trivial | refine ⟨.inl rfl, ?_⟩ | refine ⟨.inr rfl, ?_⟩)
    · have h : ¬ (128 : Int) ≤ (v : Int) := h
      have hd := hat.done (by omega)
      repeat (first | refine Ops.go ?_ | refine And.intro rfl ?_ | refine And.intro (Nat.le_of_ble_eq_true rfl) ?_ | refine And.intro (Int.natCast_nonneg _) ?_ | refine fun (_ : Nat) => ?_ | refine Ord.go ?_ | refine Run.go rfl ?_ | refine Cont.go rfl ?_ | refine OrdP.go ?_)
      refine fun r hr => ?_
      obtain rfl := hr.trans (wrap_u8 v)
      repeat (first | refine Ops.go ?_ | refine And.intro rfl ?_ | refine And.intro (Nat.le_of_ble_eq_true rfl) ?_ | refine And.intro (Int.natCast_nonneg _) ?_ | refine fun (_ : Nat) => ?_ | refine Ord.go ?_ | refine Run.go rfl ?_ | refine Cont.go rfl ?_ | refine OrdP.go ?_)
      refine ⟨(List.length_map ..).symm, show ((u8s acc).length + 1) * 1 ≤ _ by rw [List.length_map]; omega, fun g2 C2 => ?_⟩
      repeat (first | refine Ops.go ?_ | refine And.intro rfl ?_ | refine And.intro (Nat.le_of_ble_eq_true rfl) ?_ | refine And.intro (Int.natCast_nonneg _) ?_ | refine fun (_ : Nat) => ?_ | refine Ord.go ?_ | refine Run.go rfl ?_ | refine Cont.go rfl ?_ | refine OrdP.go ?_)
      refine ⟨.tuple [.sl 0 g2 C2 ((u8s acc).length + 1), .int .i64 0], _, FinOk.keep _ [1] (Sub.tuples ⟨Sub.sl _ _ _ _ _, Sub.refl _, trivial⟩) (by decide) rfl, g2, C2, by rw [hd]; simp, congrArg (fun l => [(g2, AObj.row 5 1 C2 l)]) (show u8s acc ++ [.int .u8 ((v % 256 : Nat) : Int)] = _ by rw [hd, vlast (by omega)]; simp)⟩
end Go.Proofs.YtfohedaadncefaaDoor.HBT
/- The document's own number as bytes; texts as bytes. -/
namespace Go.Proofs.YtfohedaadncefaaDoor.HBT
open Go Go.Proofs.YtfohedaadncefaaDoor.HB Go.RowKit
set_option maxRecDepth 8000

theorem rem128 (v : Nat) : (v : Int).tmod 128 = ((v % 128 : Nat) : Int) := by
  rw [Int.tmod_eq_emod_of_nonneg (by omega)]; omega
theorem quo128 (v : Nat) (h : v ≤ 2147483647) : IntKind.i64.wrap ((v : Int).tdiv 128) = ((v / 128 : Nat) : Int) := by
  rw [Int.tdiv_eq_ediv_of_nonneg (by omega), IntKind.wrap_i64]; omega

theorem refNumber_spec (v0 : Nat) (hv0 : v0 ≤ 2147483647) : FnSpec C 88 [.int .i64 v0] [] (fun r L' => ∃ g Cp, r = .tuple [.sl 0 g Cp (numI v0).length, .int .i64 0] ∧ L' = [(g, .row 5 1 Cp (u8s (numI v0)))]) := by
  refine FnSpec.start C_ok Tryd.func88 rfl rfl Tryd.ntmps88 ?_
  repeat (first | refine Ops.go ?_ | refine And.intro rfl ?_ | refine And.intro (Nat.le_of_ble_eq_true rfl) ?_ | refine And.intro (Int.natCast_nonneg _) ?_ | refine fun (_ : Nat) => ?_ | refine Ord.go ?_ | refine Run.go rfl ?_ | refine Cont.go rfl ?_ | refine OrdP.go ?_)
  refine ⟨fun h => absurd (show (v0 : Int) < 0 from h) (by omega), fun _ => ?_⟩
  repeat (first | refine Ops.go ?_ | refine And.intro rfl ?_ | refine And.intro (Nat.le_of_ble_eq_true rfl) ?_ | refine And.intro (Int.natCast_nonneg _) ?_ | refine fun (_ : Nat) => ?_ | refine Ord.go ?_ | refine Run.go rfl ?_ | refine Cont.go rfl ?_ | refine OrdP.go ?_)
  refine ⟨fun h => absurd (show (2147483647 : Int) < v0 from h) (by omega), fun _ => ?_⟩
  repeat (first | refine Ops.go ?_ | refine And.intro rfl ?_ | refine And.intro (Nat.le_of_ble_eq_true rfl) ?_ | refine And.intro (Int.natCast_nonneg _) ?_ | refine fun (_ : Nat) => ?_ | refine Ord.go ?_ | refine Run.go rfl ?_ | refine Cont.go rfl ?_ | refine OrdP.go ?_)
  refine Run.loop (fun k env L => ∃ (f v : Nat) (acc : List Int), k = f ∧ NumAt v0 acc f v ∧ v ≤ 2147483647 ∧
      ((acc = [] ∧ env = [.int .i64 v, .junk, .junk, .junk, .nils, .junk, .junk, .junk, .junk, .junk, .junk, .junk, .junk, .junk, .junk, .junk, .junk, .junk, .junk, .junk, .junk, .junk, .junk, .junk, .junk, .junk, .junk, .junk] ∧ L = []) ∨ (acc ≠ [] ∧ ∃ x0 g Cp, env = [.int .i64 v, .junk, .junk, .junk, .sl 1 g Cp acc.length, .junk, .junk, .junk, .junk, .junk, .junk, .junk, .junk, .junk, .junk, .junk, .junk, .junk, .junk, .junk, .junk, .junk, .junk, .junk, .junk, .junk, .junk, .junk] ∧ L = [x0, (g, .row 5 1 Cp (u8s acc))])))
    4 [.int .i64 v0, .junk, .junk, .junk, .nils, .junk, .junk, .junk, .junk, .junk, .junk, .junk, .junk, .junk, .junk, .junk, .junk, .junk, .junk, .junk, .junk, .junk, .junk, .junk, .junk, .junk, .junk, .junk] ?_ ⟨4, v0, [], rfl, .zero hv0, hv0, .inl ⟨rfl, rfl, rfl⟩⟩ ?_
  · repeat (first | exact trivial | refine ⟨.inl rfl, ?_⟩ | refine ⟨.inr rfl, ?_⟩)
  rintro k env L ⟨f, v, acc, rfl, hat, hv, hshape⟩
  have vlast : v < 128 → ((v % 256 : Nat) : Int) = (v : Int) := fun h => by omega
  have hle : acc.length ≤ 4 := by have := hat.len; omega
  rcases hshape with ⟨rfl, rfl, rfl⟩ | ⟨hne, x0, g, Cp, rfl, rfl⟩
  · repeat (first | refine Ops.go ?_ | refine And.intro rfl ?_ | refine And.intro (Nat.le_of_ble_eq_true rfl) ?_ | refine And.intro (Int.natCast_nonneg _) ?_ | refine fun (_ : Nat) => ?_ | refine Ord.go ?_ | refine Run.go rfl ?_ | refine Cont.go rfl ?_ | refine OrdP.go ?_)
    refine ⟨fun h => ?_, fun h => ?_⟩
    · have h : (127 : Int) < (v : Int) := h
      obtain ⟨f', rfl, hat'⟩ := hat.step (by omega)
      repeat (first | refine Ops.go ?_ | refine And.intro rfl ?_ | refine And.intro (Nat.le_of_ble_eq_true rfl) ?_ | refine And.intro (Int.natCast_nonneg _) ?_ | refine fun (_ : Nat) => ?_ | refine Ord.go ?_ | refine Run.go rfl ?_ | refine Cont.go rfl ?_ | refine OrdP.go ?_)
      refine ⟨by decide, fun r hr => ?_⟩
      obtain rfl := hr.trans (rem128 v)
      repeat (first | refine Ops.go ?_ | refine And.intro rfl ?_ | refine And.intro (Nat.le_of_ble_eq_true rfl) ?_ | refine And.intro (Int.natCast_nonneg _) ?_ | refine fun (_ : Nat) => ?_ | refine Ord.go ?_ | refine Run.go rfl ?_ | refine Cont.go rfl ?_ | refine OrdP.go ?_)
      refine fun r hr => ?_
      obtain rfl : r = ((v % 128 + 128 : Nat) : Int) := by rw [hr, IntKind.wrap_i64]; omega
      repeat (first | refine Ops.go ?_ | refine And.intro rfl ?_ | refine And.intro (Nat.le_of_ble_eq_true rfl) ?_ | refine And.intro (Int.natCast_nonneg _) ?_ | refine fun (_ : Nat) => ?_ | refine Ord.go ?_ | refine Run.go rfl ?_ | refine Cont.go rfl ?_ | refine OrdP.go ?_)
      refine fun r hr => ?_
      obtain rfl : r = ((v % 128 + 128 : Nat) : Int) := by rw [hr, wrap_u8]; omega
      repeat (first | refine Ops.go ?_ | refine And.intro rfl ?_ | refine And.intro (Nat.le_of_ble_eq_true rfl) ?_ | refine And.intro (Int.natCast_nonneg _) ?_ | refine fun (_ : Nat) => ?_ | refine Ord.go ?_ | refine Run.go rfl ?_ | refine Cont.go rfl ?_ | refine OrdP.go ?_)
      refine ⟨fun h => absurd h (List.cons_ne_nil _ _), fun _ => ?_⟩
      repeat (first | refine Ops.go ?_ | refine And.intro rfl ?_ | refine And.intro (Nat.le_of_ble_eq_true rfl) ?_ | refine And.intro (Int.natCast_nonneg _) ?_ | refine fun (_ : Nat) => ?_ | refine Ord.go ?_ | refine Run.go rfl ?_ | refine Cont.go rfl ?_ | refine OrdP.go ?_)
      refine ⟨by decide, fun r hr => ?_⟩
      obtain rfl := hr.trans (quo128 v hv)
      repeat (first | refine Ops.go ?_ | refine And.intro rfl ?_ | refine And.intro (Nat.le_of_ble_eq_true rfl) ?_ | refine And.intro (Int.natCast_nonneg _) ?_ | refine fun (_ : Nat) => ?_ | refine Ord.go ?_ | refine Run.go rfl ?_ | refine Cont.go rfl ?_ | refine OrdP.go ?_)
      refine Cont.lp ?_
      refine ⟨f', [.int .i64 (v / 128 : Nat), .junk, .junk, .junk, .sl 1 _ _ ([((v % 128 + 128 : Nat) : Int)] : List Int).length, .junk, .junk, .junk, .junk, .junk, .junk, .junk, .junk, .junk, .junk, .junk, .junk, .junk, .junk, .junk, .junk, .junk, .junk, .junk, .junk, .junk, .junk, .junk], 2, by omega, ?_, ⟨f', v / 128, [((v % 128 + 128 : Nat) : Int)], rfl, hat', by omega, .inr ⟨by simp, _, _, _, rfl, rfl⟩⟩⟩
      repeat (first | exact trivial | refine ⟨.inl rfl, ?_⟩ | refine ⟨.inr rfl, ?_⟩)
    · have h : ¬ (127 : Int) < (v : Int) := h
      have hd := hat.done (by omega)
      repeat (first | refine Ops.go ?_ | refine And.intro rfl ?_ | refine And.intro (Nat.le_of_ble_eq_true rfl) ?_ | refine And.intro (Int.natCast_nonneg _) ?_ | refine fun (_ : Nat) => ?_ | refine Ord.go ?_ | refine Run.go rfl ?_ | refine Cont.go rfl ?_ | refine OrdP.go ?_)
      refine fun r hr => ?_
      obtain rfl := hr.trans (wrap_u8 v)
      repeat (first | refine Ops.go ?_ | refine And.intro rfl ?_ | refine And.intro (Nat.le_of_ble_eq_true rfl) ?_ | refine And.intro (Int.natCast_nonneg _) ?_ | refine fun (_ : Nat) => ?_ | refine Ord.go ?_ | refine Run.go rfl ?_ | refine Cont.go rfl ?_ | refine OrdP.go ?_)
      refine ⟨fun h => absurd h (List.cons_ne_nil _ _), fun _ => ?_⟩
      repeat (first | refine Ops.go ?_ | refine And.intro rfl ?_ | refine And.intro (Nat.le_of_ble_eq_true rfl) ?_ | refine And.intro (Int.natCast_nonneg _) ?_ | refine fun (_ : Nat) => ?_ | refine Ord.go ?_ | refine Run.go rfl ?_ | refine Cont.go rfl ?_ | refine OrdP.go ?_)
      refine ⟨.tuple [.sl 0 _ _ ([(v : Int)] : List Int).length, .int .i64 0], _, FinOk.keep _ [1] (Sub.tuples ⟨Sub.sl _ _ _ _ _, Sub.refl _, trivial⟩) (by decide) rfl, _, _, by rw [hd]; rfl, by rw [hd, ← vlast (by omega)]; rfl⟩
  · repeat (first | refine Ops.go ?_ | refine And.intro rfl ?_ | refine And.intro (Nat.le_of_ble_eq_true rfl) ?_ | refine And.intro (Int.natCast_nonneg _) ?_ | refine fun (_ : Nat) => ?_ | refine Ord.go ?_ | refine Run.go rfl ?_ | refine Cont.go rfl ?_ | refine OrdP.go ?_)
    refine ⟨fun h => ?_, fun h => ?_⟩
    · have h : (127 : Int) < (v : Int) := h
      obtain ⟨f', rfl, hat'⟩ := hat.step (by omega)
      repeat (first | refine Ops.go ?_ | refine And.intro rfl ?_ | refine And.intro (Nat.le_of_ble_eq_true rfl) ?_ | refine And.intro (Int.natCast_nonneg _) ?_ | refine fun (_ : Nat) => ?_ | refine Ord.go ?_ | refine Run.go rfl ?_ | refine Cont.go rfl ?_ | refine OrdP.go ?_)
      refine ⟨by decide, fun r hr => ?_⟩
      obtain rfl := hr.trans (rem128 v)
      repeat (first | refine Ops.go ?_ | refine And.intro rfl ?_ | refine And.intro (Nat.le_of_ble_eq_true rfl) ?_ | refine And.intro (Int.natCast_nonneg _) ?_ | refine fun (_ : Nat) => ?_ | refine Ord.go ?_ | refine Run.go rfl ?_ | refine Cont.go rfl ?_ | refine OrdP.go ?_)
      refine fun r hr => ?_
      obtain rfl : r = ((v % 128 + 128 : Nat) : Int) := by rw [hr, IntKind.wrap_i64]; omega
      repeat (first | refine Ops.go ?_ | refine And.intro rfl ?_ | refine And.intro (Nat.le_of_ble_eq_true rfl) ?_ | refine And.intro (Int.natCast_nonneg _) ?_ | refine fun (_ : Nat) => ?_ | refine Ord.go ?_ | refine Run.go rfl ?_ | refine Cont.go rfl ?_ | refine OrdP.go ?_)
      refine fun r hr => ?_
      obtain rfl : r = ((v % 128 + 128 : Nat) : Int) := by rw [hr, wrap_u8]; omega
      repeat (first | refine Ops.go ?_ | refine And.intro rfl ?_ | refine And.intro (Nat.le_of_ble_eq_true rfl) ?_ | refine And.intro (Int.natCast_nonneg _) ?_ | refine fun (_ : Nat) => ?_ | refine Ord.go ?_ | refine Run.go rfl ?_ | refine Cont.go rfl ?_ | refine OrdP.go ?_)
      refine ⟨(List.length_map ..).symm, show ((u8s acc).length + 1) * 1 ≤ _ by rw [List.length_map]; omega, fun g2 C2 => ?_⟩
      repeat (first | refine Ops.go ?_ | refine And.intro rfl ?_ | refine And.intro (Nat.le_of_ble_eq_true rfl) ?_ | refine And.intro (Int.natCast_nonneg _) ?_ | refine fun (_ : Nat) => ?_ | refine Ord.go ?_ | refine Run.go rfl ?_ | refine Cont.go rfl ?_ | refine OrdP.go ?_)
      refine ⟨by decide, fun r hr => ?_⟩
      obtain rfl := hr.trans (quo128 v hv)
      repeat (first | refine Ops.go ?_ | refine And.intro rfl ?_ | refine And.intro (Nat.le_of_ble_eq_true rfl) ?_ | refine And.intro (Int.natCast_nonneg _) ?_ | refine fun (_ : Nat) => ?_ | refine Ord.go ?_ | refine Run.go rfl ?_ | refine Cont.go rfl ?_ | refine OrdP.go ?_)
      refine Cont.lp ?_
      refine ⟨f', [.int .i64 (v / 128 : Nat), .junk, .junk, .junk, .sl 1 g2 C2 ((u8s acc).length + 1), .junk, .junk, .junk, .junk, .junk, .junk, .junk, .junk, .junk, .junk, .junk, .junk, .junk, .junk, .junk, .junk, .junk, .junk, .junk, .junk, .junk, .junk, .junk], 2, by omega, ?_, ⟨f', v / 128, acc ++ [((v % 128 + 128 : Nat) : Int)], rfl, hat', by omega, .inr ⟨by simp, x0, g2, C2, by simp, congrArg (fun l => [x0, (g2, AObj.row 5 1 C2 l)]) (show u8s acc ++ [.int .u8 ((v % 128 + 128 : Nat) : Int)] = _ by simp)⟩⟩⟩
      repeat (first | exact trivial | refine ⟨.inl rfl, ?_⟩ | refine ⟨.inr rfl, ?_⟩)
    · have h : ¬ (127 : Int) < (v : Int) := h
      have hd := hat.done (by omega)
      repeat (first | refine Ops.go ?_ | refine And.intro rfl ?_ | refine And.intro (Nat.le_of_ble_eq_true rfl) ?_ | refine And.intro (Int.natCast_nonneg _) ?_ | refine fun (_ : Nat) => ?_ | refine Ord.go ?_ | refine Run.go rfl ?_ | refine Cont.go rfl ?_ | refine OrdP.go ?_)
      refine fun r hr => ?_
      obtain rfl := hr.trans (wrap_u8 v)
      repeat (first | refine Ops.go ?_ | refine And.intro rfl ?_ | refine And.intro (Nat.le_of_ble_eq_true rfl) ?_ | refine And.intro (Int.natCast_nonneg _) ?_ | refine fun (_ : Nat) => ?_ | refine Ord.go ?_ | refine Run.go rfl ?_ | refine Cont.go rfl ?_ | refine OrdP.go ?_)
      refine ⟨(List.length_map ..).symm, show ((u8s acc).length + 1) * 1 ≤ _ by rw [List.length_map]; omega, fun g2 C2 => ?_⟩
      repeat (first | refine Ops.go ?_ | refine And.intro rfl ?_ | refine And.intro (Nat.le_of_ble_eq_true rfl) ?_ | refine And.intro (Int.natCast_nonneg _) ?_ | refine fun (_ : Nat) => ?_ | refine Ord.go ?_ | refine Run.go rfl ?_ | refine Cont.go rfl ?_ | refine OrdP.go ?_)
      refine ⟨.tuple [.sl 0 g2 C2 ((u8s acc).length + 1), .int .i64 0], _, FinOk.keep _ [1] (Sub.tuples ⟨Sub.sl _ _ _ _ _, Sub.refl _, trivial⟩) (by decide) rfl, g2, C2, by rw [hd]; simp, congrArg (fun l => [(g2, AObj.row 5 1 C2 l)]) (show u8s acc ++ [.int .u8 ((v % 256 : Nat) : Int)] = _ by rw [hd, vlast (by omega)]; simp)⟩
/-- A text's bytes, as integers. -/
def bytesI (s : ByteArray) : List Int := s.data.toList.map fun b => (b.toNat : Int)
theorem bytesA_I (s : ByteArray) : bytesA s = u8s (bytesI s) := by unfold bytesA bytesI u8s; rw [List.map_map]; rfl
def txtI (s : ByteArray) : List Int := numI s.size ++ bytesI s
theorem bytesI_len (s : ByteArray) : (bytesI s).length = s.size := by unfold bytesI; rw [List.length_map, Array.length_toList]; rfl

theorem text_spec (s : ByteArray) (hs : s.size ≤ 262144) : FnSpec C 67 [.str s] [] (fun r L' => ∃ g Cp, r = .tuple [.sl 0 g Cp (txtI s).length, .int .i64 0] ∧ L' = [(g, .row 5 1 Cp (u8s (txtI s)))]) := by
  refine FnSpec.start C_ok Tryd.func67 rfl rfl Tryd.ntmps67 ?_
  have hl := numI_len s.size
  have e : u8s (numI s.size) ++ bytesA s = u8s (txtI s) := by rw [bytesA_I]; unfold txtI; simp
  have el : (u8s (numI s.size)).length + (bytesA s).length = (txtI s).length := by rw [← List.length_append, e, List.length_map]
  repeat (first | refine Ops.go ?_ | refine And.intro rfl ?_ | refine And.intro (Nat.le_of_ble_eq_true rfl) ?_ | refine And.intro (Int.natCast_nonneg _) ?_ | refine fun (_ : Nat) => ?_ | refine Ord.go ?_ | refine Run.go rfl ?_ | refine Cont.go rfl ?_ | refine OrdP.go ?_)
  refine ⟨fun h => absurd (show (262144 : Int) < (s.size : Int) from h) (by omega), fun _ => ?_⟩
  repeat (first | refine Ops.go ?_ | refine And.intro rfl ?_ | refine And.intro (Nat.le_of_ble_eq_true rfl) ?_ | refine And.intro (Int.natCast_nonneg _) ?_ | refine fun (_ : Nat) => ?_ | refine Ord.go ?_ | refine Run.go rfl ?_ | refine Cont.go rfl ?_ | refine OrdP.go ?_)
  refine ACall.pure _ (number_spec s.size (by omega)) ?_
  rintro r L' ⟨g, Cp, rfl, rfl⟩
  refine ⟨.tuple [.sl 0 g Cp (numI s.size).length, .int .i64 0], Sub.refl _, ?_⟩
  repeat (first | refine Ops.go ?_ | refine And.intro rfl ?_ | refine And.intro (Nat.le_of_ble_eq_true rfl) ?_ | refine And.intro (Int.natCast_nonneg _) ?_ | refine fun (_ : Nat) => ?_ | refine Ord.go ?_ | refine Run.go rfl ?_ | refine Cont.go rfl ?_ | refine OrdP.go ?_)
  refine ⟨(List.length_map ..).symm, show ((u8s (numI s.size)).length + (bytesA s).length) * 1 ≤ _ by rw [el, Nat.mul_one]; unfold txtI; rw [List.length_append, bytesI_len]; omega, fun g2 C2 => ?_⟩
  repeat (first | refine Ops.go ?_ | refine And.intro rfl ?_ | refine And.intro (Nat.le_of_ble_eq_true rfl) ?_ | refine And.intro (Int.natCast_nonneg _) ?_ | refine fun (_ : Nat) => ?_ | refine Ord.go ?_ | refine Run.go rfl ?_ | refine Cont.go rfl ?_ | refine OrdP.go ?_)
  refine ⟨.tuple [.sl 0 g2 C2 ((u8s (numI s.size)).length + (bytesA s).length), .int .i64 0], _, FinOk.keep _ [0] (Sub.refl _) (by decide) rfl, g2, C2, by rw [el], congrArg (fun l => [(g2, AObj.row 5 1 C2 l)]) e⟩

theorem refText_spec (s : ByteArray) (hs : s.size ≤ 262144) : FnSpec C 89 [.str s] [] (fun r L' => ∃ g Cp, r = .tuple [.sl 0 g Cp (txtI s).length, .int .i64 0] ∧ L' = [(g, .row 5 1 Cp (u8s (txtI s)))]) := by
  refine FnSpec.start C_ok Tryd.func89 rfl rfl Tryd.ntmps89 ?_
  have hl := numI_len s.size
  have e : u8s (numI s.size) ++ bytesA s = u8s (txtI s) := by rw [bytesA_I]; unfold txtI; simp
  have el : (u8s (numI s.size)).length + (bytesA s).length = (txtI s).length := by rw [← List.length_append, e, List.length_map]
  repeat (first | refine Ops.go ?_ | refine And.intro rfl ?_ | refine And.intro (Nat.le_of_ble_eq_true rfl) ?_ | refine And.intro (Int.natCast_nonneg _) ?_ | refine fun (_ : Nat) => ?_ | refine Ord.go ?_ | refine Run.go rfl ?_ | refine Cont.go rfl ?_ | refine OrdP.go ?_)
  refine ⟨fun h => absurd (show (262144 : Int) < (s.size : Int) from h) (by omega), fun _ => ?_⟩
  repeat (first | refine Ops.go ?_ | refine And.intro rfl ?_ | refine And.intro (Nat.le_of_ble_eq_true rfl) ?_ | refine And.intro (Int.natCast_nonneg _) ?_ | refine fun (_ : Nat) => ?_ | refine Ord.go ?_ | refine Run.go rfl ?_ | refine Cont.go rfl ?_ | refine OrdP.go ?_)
  refine ACall.pure _ (refNumber_spec s.size (by omega)) ?_
  rintro r L' ⟨g, Cp, rfl, rfl⟩
  refine ⟨.tuple [.sl 0 g Cp (numI s.size).length, .int .i64 0], Sub.refl _, ?_⟩
  repeat (first | refine Ops.go ?_ | refine And.intro rfl ?_ | refine And.intro (Nat.le_of_ble_eq_true rfl) ?_ | refine And.intro (Int.natCast_nonneg _) ?_ | refine fun (_ : Nat) => ?_ | refine Ord.go ?_ | refine Run.go rfl ?_ | refine Cont.go rfl ?_ | refine OrdP.go ?_)
  refine ⟨(List.length_map ..).symm, show ((u8s (numI s.size)).length + (bytesA s).length) * 1 ≤ _ by rw [el, Nat.mul_one]; unfold txtI; rw [List.length_append, bytesI_len]; omega, fun g2 C2 => ?_⟩
  repeat (first | refine Ops.go ?_ | refine And.intro rfl ?_ | refine And.intro (Nat.le_of_ble_eq_true rfl) ?_ | refine And.intro (Int.natCast_nonneg _) ?_ | refine fun (_ : Nat) => ?_ | refine Ord.go ?_ | refine Run.go rfl ?_ | refine Cont.go rfl ?_ | refine OrdP.go ?_)
  refine ⟨.tuple [.sl 0 g2 C2 ((u8s (numI s.size)).length + (bytesA s).length), .int .i64 0], _, FinOk.keep _ [0] (Sub.refl _) (by decide) rfl, g2, C2, by rw [el], congrArg (fun l => [(g2, AObj.row 5 1 C2 l)]) e⟩

end Go.Proofs.YtfohedaadncefaaDoor.HBT
/- More ways to end a function: some objects kept, said otherwise. -/
namespace Go.Proofs.YtfohedaadncefaaDoor.HB
open Go

theorem FinOk.trans {r r' r'' : AV} {L L' L'' : AHeap} (h : FinOk r L r' L') (k : FinOk r' L' r'' L'') : FinOk r L r'' L'' := fun own0 imm0 w0 imm w v hs hv ht => by
  obtain ⟨imm1, a, b, c⟩ := h own0 imm0 w0 imm w v hs hv ht
  exact k own0 imm0 w0 imm1 w v a b c
theorem FinOk.sub (r : AV) {L L' : AHeap} (h : SubL L L') : FinOk r L r L' := fun own0 imm0 w0 imm w v hs hv ht =>
  ⟨imm, h.sat hs, hv, by rw [h.own]; exact ht⟩
/-- Some objects are kept, in a new order, and said otherwise. -/
theorem FinOk.keepS (r : AV) {r' : AV} {L L' L'' : AHeap} (ks : List Nat) (hr : Sub r r') (hnd : ks.Nodup) (hL : L' = ks.map fun k => L.getD k (0, .dead)) (hS : SubL L' L'') : FinOk r L r' L'' :=
  (FinOk.keep r ks hr hnd hL).trans (FinOk.sub r' hS)

theorem SubO.refl (o : AObj) : SubO o o := by
  cases o with
  | dead => trivial
  | cells t cs => exact SubO.cells (Subs.refl cs)
  | row e sz Cp xs => exact SubO.rowR e sz Cp xs
theorem SubL.refl : ∀ L : AHeap, SubL L L
  | [] => trivial
  | (_, o) :: L => ⟨rfl, SubO.refl o, SubL.refl L⟩
theorem Lends.four {L : AHeap} {x x' y y' z z' u u' : AV} (h : Lend L x x') (k : Lend L y y') (l : Lend L z z') (m : Lend L u u') : Lends L [x, y, z, u] [x', y', z', u'] := ⟨h, k, l, m, trivial⟩
end Go.Proofs.YtfohedaadncefaaDoor.HB
