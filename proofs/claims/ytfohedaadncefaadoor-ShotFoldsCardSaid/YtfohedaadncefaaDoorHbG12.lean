/- The contract of the shot's text 'Fold'. -/
import Derived.Test.YtfohedaadncefaaDoorHbG2
import Derived.Test.YtfohedaadncefaaDoorHbG10
import Derived.Test.YtfohedaadncefaaDoorHbD8
namespace Go.Proofs.YtfohedaadncefaaDoor.HBT
open Go Go.Proofs.YtfohedaadncefaaDoor.HB Go.RowKit
set_option maxRecDepth 20000

theorem found_ex (l : List Sn) (p : ByteArray) : ∃ i b, Found l l.length p i b := by
  open Classical in
  refine ⟨l.findIdx (fun x => decide (¬ orderB x.p p < 0)), decide (l.findIdx (fun x => decide (¬ orderB x.p p < 0)) < l.length ∧ ∃ x, l[l.findIdx (fun x => decide (¬ orderB x.p p < 0))]? = some x ∧ orderB x.p p = 0), List.findIdx_le_length, ?_, ?_, ?_⟩
  · generalize hi : l.findIdx (fun x => decide (¬ orderB x.p p < 0)) = i
    by_cases h0 : i = 0
    · exact .inl h0
    · have hle : i ≤ l.length := hi ▸ List.findIdx_le_length
      refine .inr ⟨l[i - 1]'(by omega), List.getElem?_eq_getElem _, ?_⟩
      have := List.not_of_lt_findIdx (p := fun x => decide (¬ orderB x.p p < 0)) (xs := l) (i := i - 1) (by omega)
      simpa using this
  · by_cases h : l.findIdx (fun x => decide (¬ orderB x.p p < 0)) < l.length
    · refine .inr ⟨_, List.getElem?_eq_getElem h, ?_⟩
      have := List.findIdx_getElem (w := h)
      simpa using this
    · have := List.findIdx_le_length (xs := l) (p := fun x => decide (¬ orderB x.p p < 0))
      exact .inl (by omega)
  · exact decide_eq_true_iff

theorem foldD_cons (kd : Int) (pl : ByteArray) (l : List Sn) (c : Ch) (cs : List Ch) : foldD kd pl l (c :: cs) = match stepD kd pl l c with
    | some l' => foldD kd pl l' cs
    | none => none := rfl
theorem foldD_nil (kd : Int) (pl : ByteArray) (l : List Sn) : foldD kd pl l [] = some l := rfl
abbrev shot0 : AV := shot 0 ⟨#[]⟩ 0 .nils
/-- What a fold answers. -/
def FoldQ (ok : Prop) (st stamp : Int) (pl : ByteArray) (kd : Int) (res : Option (List Sn)) (r : AV) (L' : AHeap) : Prop :=
  (¬ ok ∧ r = .tuple [shot0, .int .i64 51] ∧ L' = []) ∨ (ok ∧ (stamp ≤ st ∨ 2147483647 < stamp) ∧ r = .tuple [shot0, .int .i64 1] ∧ L' = []) ∨
  (ok ∧ ¬ (stamp ≤ st ∨ 2147483647 < stamp) ∧ res = none ∧ r = .tuple [shot0, .int .i64 50] ∧ L' = []) ∨
  (ok ∧ ¬ (stamp ≤ st ∨ 2147483647 < stamp) ∧ ∃ l', res = some l' ∧ ∃ v g o, LN 0 l' v g o ∧ r = .tuple [shot stamp pl kd v, .int .i64 0] ∧ L' = [(g, o)])

theorem good_of {st : Int} {pl : ByteArray} {kd : Int} {xs : List Sn} {n : Nat} (hx : n ≤ xs.length) (h1 : checkP st pl kd xs n) : Good (xs.take n) := by
  have sx : Sorted xs n := sorted_of hx (fun k x y hk ex ey => by
    obtain ⟨_, _, hb⟩ := h1.2.2.2.2.2 (k + 1) y hk ey
    rcases hb with ⟨h0, _⟩ | ⟨_, z, ez, hz, _⟩
    · omega
    · rw [Nat.add_sub_cancel, ex] at ez; cases ez; exact hz)
  have tl : (xs.take n).length = n := by rw [List.length_take]; omega
  refine ⟨sorted_pw.1 (fun j k x y hjk hk ex ey => ?_), fun x hx' => ?_, by rw [tl]; exact h1.2.2.2.1⟩
  · rw [tl] at hk
    rw [List.getElem?_take, if_pos (by omega)] at ex
    rw [List.getElem?_take, if_pos (by omega)] at ey
    exact sx j k x y hjk hk ex ey
  · obtain ⟨j, hj⟩ := List.getElem?_of_mem hx'
    rw [List.getElem?_take] at hj
    split at hj
    · exact (h1.2.2.2.2.2 j x (by omega) hj).1
    · cases hj

theorem good_small {l : List Sn} (h : Good l) : ∀ x ∈ l, x.p.size ≤ 9223372036854775807 := fun x hx => by have := place_small (h.pl x hx); omega

set_option maxHeartbeats 16000000 in
theorem foldShot_spec (st : Int) (pl : ByteArray) (kd : Int) (xs : List Sn) (n : Nat) (stamp : Int) (cs : List Ch) (m : Nat) (hx : n ≤ xs.length) (px : ∀ x ∈ xs, x.p.size ≤ 9223372036854775807) (hc : m ≤ cs.length) (hm : m ≤ 1000) :
    FnSpec C 25 [shot st pl kd (rdo xs n), .int .i64 stamp, rdc cs m] [] (FoldQ (checkP st pl kd xs n) st stamp pl kd (foldD kd pl (xs.take n) (cs.take m))) := by
  have c1 := check_spec st pl kd xs n hx px
  refine FnSpec.start C_ok Tryd.func25 rfl rfl Tryd.ntmps25 ?_
  repeat (first | refine Ops.go ?_ | refine And.intro rfl ?_ | refine And.intro (Nat.le_of_ble_eq_true rfl) ?_ | refine And.intro (Int.natCast_nonneg _) ?_ | refine fun (_ : Nat) => ?_ | refine Ord.go ?_ | refine Run.go rfl ?_ | refine Cont.go rfl ?_ | refine OrdP.go ?_)
  rename_i gs0 gr0
  by_cases h1 : checkP st pl kd xs n
  case neg =>
    rw [show checkE st pl kd xs n = 51 from if_neg h1] at c1
    refine ACall.ret c1 ?_
    repeat (first | refine Ops.go ?_ | refine And.intro rfl ?_ | refine And.intro (Nat.le_of_ble_eq_true rfl) ?_ | refine And.intro (Int.natCast_nonneg _) ?_ | refine fun (_ : Nat) => ?_ | refine Ord.go ?_ | refine Run.go rfl ?_ | refine Cont.go rfl ?_ | refine OrdP.go ?_)
    refine ⟨fun _ => ?_, fun h => absurd (by decide) h⟩
    repeat (first | refine Ops.go ?_ | refine And.intro rfl ?_ | refine And.intro (Nat.le_of_ble_eq_true rfl) ?_ | refine And.intro (Int.natCast_nonneg _) ?_ | refine fun (_ : Nat) => ?_ | refine Ord.go ?_ | refine Run.go rfl ?_ | refine Cont.go rfl ?_ | refine OrdP.go ?_)
    exact ⟨_, [], FinOk.drop _ _, .inl ⟨h1, rfl, rfl⟩⟩
  rw [show checkE st pl kd xs n = 0 from if_pos h1] at c1
  refine ACall.ret c1 ?_
  repeat (first | refine Ops.go ?_ | refine And.intro rfl ?_ | refine And.intro (Nat.le_of_ble_eq_true rfl) ?_ | refine And.intro (Int.natCast_nonneg _) ?_ | refine fun (_ : Nat) => ?_ | refine Ord.go ?_ | refine Run.go rfl ?_ | refine Cont.go rfl ?_ | refine OrdP.go ?_)
  refine ⟨fun h => absurd rfl h, fun _ => ?_⟩
  repeat (first | refine Ops.go ?_ | refine And.intro rfl ?_ | refine And.intro (Nat.le_of_ble_eq_true rfl) ?_ | refine And.intro (Int.natCast_nonneg _) ?_ | refine fun (_ : Nat) => ?_ | refine Ord.go ?_ | refine Run.go rfl ?_ | refine Cont.go rfl ?_ | refine OrdP.go ?_)
  refine ⟨fun h => ?_, fun h => ?_⟩
  · have h : stamp ≤ st := h
    repeat (first | refine Ops.go ?_ | refine And.intro rfl ?_ | refine And.intro (Nat.le_of_ble_eq_true rfl) ?_ | refine And.intro (Int.natCast_nonneg _) ?_ | refine fun (_ : Nat) => ?_ | refine Ord.go ?_ | refine Run.go rfl ?_ | refine Cont.go rfl ?_ | refine OrdP.go ?_)
    exact ⟨_, [], FinOk.drop _ _, .inr (.inl ⟨h1, .inl h, rfl, rfl⟩)⟩
  have h2 : ¬ stamp ≤ st := h
  repeat (first | refine Ops.go ?_ | refine And.intro rfl ?_ | refine And.intro (Nat.le_of_ble_eq_true rfl) ?_ | refine And.intro (Int.natCast_nonneg _) ?_ | refine fun (_ : Nat) => ?_ | refine Ord.go ?_ | refine Run.go rfl ?_ | refine Cont.go rfl ?_ | refine OrdP.go ?_)
  refine ⟨fun h => ?_, fun h => ?_⟩
  · have h : (2147483647 : Int) < stamp := h
    repeat (first | refine Ops.go ?_ | refine And.intro rfl ?_ | refine And.intro (Nat.le_of_ble_eq_true rfl) ?_ | refine And.intro (Int.natCast_nonneg _) ?_ | refine fun (_ : Nat) => ?_ | refine Ord.go ?_ | refine Run.go rfl ?_ | refine Cont.go rfl ?_ | refine OrdP.go ?_)
    exact ⟨_, [], FinOk.drop _ _, .inr (.inl ⟨h1, .inr h, rfl, rfl⟩)⟩
  have h3 : ¬ (2147483647 : Int) < stamp := h
  have hst : ¬ (stamp ≤ st ∨ 2147483647 < stamp) := by rintro (h | h); exact h2 h; exact h3 h
  have hg0 := good_of hx h1
  have n64 : n ≤ 64 := h1.2.2.2.1
  repeat (first | refine Ops.go ?_ | refine And.intro rfl ?_ | refine And.intro (Nat.le_of_ble_eq_true rfl) ?_ | refine And.intro (Int.natCast_nonneg _) ?_ | refine fun (_ : Nat) => ?_ | refine Ord.go ?_ | refine Run.go rfl ?_ | refine Cont.go rfl ?_ | refine OrdP.go ?_)
  refine ACall.pure _ (clone_spec xs n hx (by omega)) ?_
  rintro r L' (⟨g, Cp, rfl, rfl⟩ | ⟨hxs, rfl, rfl⟩)
  · refine ⟨_, Sub.sl _ 2 _ _ _, ?_⟩
    repeat (first | refine Ops.go ?_ | refine And.intro rfl ?_ | refine And.intro (Nat.le_of_ble_eq_true rfl) ?_ | refine And.intro (Int.natCast_nonneg _) ?_ | refine fun (_ : Nat) => ?_ | refine Ord.go ?_ | refine Run.go rfl ?_ | refine Cont.go rfl ?_ | refine OrdP.go ?_)
    refine Run.loopW (fun k env L => ∃ (i : Nat) (l : List Sn) (v : AV) (o : AObj) (gs gr g : Nat), k = m - i ∧ i ≤ m ∧ Good l ∧ foldD kd pl (xs.take n) (cs.take m) = foldD kd pl l ((cs.take m).drop i) ∧ LN 2 l v g o ∧ env = [.junk, .junk, .junk, .ptr 0 gs 0, .junk, .junk, .ptr 1 gr 0, .junk, .junk, .junk, .junk, .junk, .junk, .junk, .junk, .junk, .junk, .junk, .junk, .junk, .junk, .junk, .junk, .junk, .junk, .junk, .junk, .junk, .junk, .junk, .junk, .junk, .junk, .junk, rdc cs m, .int .i64 m, .int .i64 i, .junk, .junk, .junk, .junk, .junk, .junk, .junk, .junk, .junk, .junk, .junk, .junk, .junk, .junk, .junk, .junk, .junk, .junk, .junk, .junk, .junk, .junk, .junk, .junk, .junk, .junk, .junk, .junk, .junk, .junk, .junk, .junk, .junk, .junk, .junk, .junk, .junk, .junk, .junk, .junk, .junk, .junk, .junk, .junk, .junk, .junk] ∧ L = [(gs, .cells 24 [.int .i64 stamp, .str pl, .int .i64 kd, v]), (gr, .cells 24 [.int .i64 0, .str ⟨#[]⟩, .int .i64 0, .nils]), (g, o)]) m
      [.junk, .junk, .junk, .ptr 0 gs0 0, .junk, .junk, .ptr 1 gr0 0, .junk, .junk, .junk, .junk, .junk, .junk, .junk, .junk, .junk, .junk, .junk, .junk, .junk, .junk, .junk, .junk, .junk, .junk, .junk, .junk, .junk, .junk, .junk, .junk, .junk, .junk, .junk, rdc cs m, .int .i64 m, .int .i64 (0 : Nat), .junk, .junk, .junk, .junk, .junk, .junk, .junk, .junk, .junk, .junk, .junk, .junk, .junk, .junk, .junk, .junk, .junk, .junk, .junk, .junk, .junk, .junk, .junk, .junk, .junk, .junk, .junk, .junk, .junk, .junk, .junk, .junk, .junk, .junk, .junk, .junk, .junk, .junk, .junk, .junk, .junk, .junk, .junk, .junk, .junk, .junk]
      [(gs0, .cells 24 [.int .i64 stamp, .str pl, .int .i64 kd, .sl 2 g Cp n]), (gr0, .cells 24 [.int .i64 0, .str ⟨#[]⟩, .int .i64 0, .nils]), (g, .row 50 3 Cp ((xs.take n).map enc))]
      (Weak.sel ?_ [0, 1, 2] (by decide) ⟨rfl, SubO.refl _, rfl, SubO.refl _, rfl, SubO.refl _, trivial⟩)
      ⟨0, xs.take n, .sl 2 g Cp n, .row 50 3 Cp ((xs.take n).map enc), gs0, gr0, g, by omega, by omega, hg0, by rw [List.drop_zero], .inr ⟨Cp, by rw [List.length_take, Nat.min_eq_left hx], rfl⟩, rfl, rfl⟩ ?_
    · repeat (first | exact trivial | refine And.intro (Sub.junk _) ?_ | refine And.intro (Sub.refl _) ?_ | refine And.intro (Sub.sl _ _ _ _ _) ?_ | refine And.intro (Sub.ptr _ _ _ _) ?_)
    rintro k env L ⟨i, l, v, o, gs, gr, g, rfl, hi, hg, hfd, hv, rfl, rfl⟩
    repeat (first | refine Ops.go ?_ | refine And.intro rfl ?_ | refine And.intro (Nat.le_of_ble_eq_true rfl) ?_ | refine And.intro (Int.natCast_nonneg _) ?_ | refine fun (_ : Nat) => ?_ | refine Ord.go ?_ | refine Run.go rfl ?_ | refine Cont.go rfl ?_ | refine OrdP.go ?_)
    refine ⟨fun h => ?_, fun h => ?_⟩
    · have h : (i : Int) < (m : Int) := h
      obtain ⟨c, ec⟩ : ∃ c, cs[i]? = some c := ⟨cs[i], List.getElem?_eq_getElem (by omega)⟩
      have ed : (cs.take m).drop i = c :: (cs.take m).drop (i + 1) := by
        rw [List.drop_eq_getElem_cons (by rw [List.length_take]; omega)]
        congr 1
        rw [List.getElem_take]
        exact Option.some.inj ((List.getElem?_eq_getElem (by omega)).symm.trans ec)
      rw [ed] at hfd
      rw [foldD_cons] at hfd
      have badD : (c.k < 1 ∨ 3 < c.k ∨ parseE c.p ≠ 0) → foldD kd pl (xs.take n) (cs.take m) = none := fun h => by
        rw [hfd, show stepD kd pl l c = none from by unfold stepD stepR; rw [if_pos h]]
      repeat (first | refine Ops.go ?_ | refine And.intro rfl ?_ | refine And.intro (Nat.le_of_ble_eq_true rfl) ?_ | refine And.intro (Int.natCast_nonneg _) ?_ | refine fun (_ : Nat) => ?_ | refine Ord.go ?_ | refine Run.go rfl ?_ | refine Cont.go rfl ?_ | refine OrdP.go ?_)
      refine ⟨h, encC c, encC_at _ _ _ ec, ?_⟩
      repeat (first | refine Ops.go ?_ | refine And.intro rfl ?_ | refine And.intro (Nat.le_of_ble_eq_true rfl) ?_ | refine And.intro (Int.natCast_nonneg _) ?_ | refine fun (_ : Nat) => ?_ | refine Ord.go ?_ | refine Run.go rfl ?_ | refine Cont.go rfl ?_ | refine OrdP.go ?_)
      refine ⟨fun h => ?_, fun h => ?_⟩
      · have k1 : c.k ≠ 1 := h
        repeat (first | refine Ops.go ?_ | refine And.intro rfl ?_ | refine And.intro (Nat.le_of_ble_eq_true rfl) ?_ | refine And.intro (Int.natCast_nonneg _) ?_ | refine fun (_ : Nat) => ?_ | refine Ord.go ?_ | refine Run.go rfl ?_ | refine Cont.go rfl ?_ | refine OrdP.go ?_)
        refine ⟨fun h => ?_, fun h => ?_⟩
        · have k2 : c.k ≠ 2 := h
          repeat (first | refine Ops.go ?_ | refine And.intro rfl ?_ | refine And.intro (Nat.le_of_ble_eq_true rfl) ?_ | refine And.intro (Int.natCast_nonneg _) ?_ | refine fun (_ : Nat) => ?_ | refine Ord.go ?_ | refine Run.go rfl ?_ | refine Cont.go rfl ?_ | refine OrdP.go ?_)
          refine ⟨fun h => ?_, fun h => ?_⟩
          · have k3 : c.k ≠ 3 := h
            repeat (first | refine Ops.go ?_ | refine And.intro rfl ?_ | refine And.intro (Nat.le_of_ble_eq_true rfl) ?_ | refine And.intro (Int.natCast_nonneg _) ?_ | refine fun (_ : Nat) => ?_ | refine Ord.go ?_ | refine Run.go rfl ?_ | refine Cont.go rfl ?_ | refine OrdP.go ?_)
            exact ⟨_, [], FinOk.drop _ _, .inr (.inr (.inl ⟨h1, hst, badD (by omega), rfl, rfl⟩))⟩
          · have k3 : ¬ c.k ≠ 3 := h
            have hk : 1 ≤ c.k ∧ c.k ≤ 3 := by omega
            have hgd : ¬ (c.k < 1 ∨ 3 < c.k) := by omega
            repeat (first | refine Ops.go ?_ | refine And.intro rfl ?_ | refine And.intro (Nat.le_of_ble_eq_true rfl) ?_ | refine And.intro (Int.natCast_nonneg _) ?_ | refine fun (_ : Nat) => ?_ | refine Ord.go ?_ | refine Run.go rfl ?_ | refine Cont.go rfl ?_ | refine OrdP.go ?_)
            by_cases hp : parseE c.p = 0
            case neg =>
              have ci := isPlace_spec c.p
              rw [decide_eq_false hp] at ci
              refine ACall.ret ci ?_
              repeat (first | refine Ops.go ?_ | refine And.intro rfl ?_ | refine And.intro (Nat.le_of_ble_eq_true rfl) ?_ | refine And.intro (Int.natCast_nonneg _) ?_ | refine fun (_ : Nat) => ?_ | refine Ord.go ?_ | refine Run.go rfl ?_ | refine Cont.go rfl ?_ | refine OrdP.go ?_)
              exact ⟨_, [], FinOk.drop _ _, .inr (.inr (.inl ⟨h1, hst, badD (.inr (.inr hp)), rfl, rfl⟩))⟩
            have ci := isPlace_spec c.p
            rw [decide_eq_true hp] at ci
            refine ACall.ret ci ?_
            repeat (first | refine Ops.go ?_ | refine And.intro rfl ?_ | refine And.intro (Nat.le_of_ble_eq_true rfl) ?_ | refine And.intro (Int.natCast_nonneg _) ?_ | refine fun (_ : Nat) => ?_ | refine Ord.go ?_ | refine Run.go rfl ?_ | refine Cont.go rfl ?_ | refine OrdP.go ?_)
            by_cases hcov : coversP kd pl c.k c.p
            case neg =>
              have cc := covers_spec kd pl c.k c.p
              rw [decide_eq_false hcov] at cc
              refine ACall.ret cc ?_
              have hsd : stepD kd pl l c = some l := by
                unfold stepD stepR
                rw [if_neg (show ¬ (c.k < 1 ∨ 3 < c.k ∨ parseE c.p ≠ 0) by rintro (h | h | h); omega; omega; exact h hp), if_pos (fun h => hcov ((covers_ref _ _ _ _).2 h))]
              rw [hsd] at hfd
              repeat (first | refine Ops.go ?_ | refine And.intro rfl ?_ | refine And.intro (Nat.le_of_ble_eq_true rfl) ?_ | refine And.intro (Int.natCast_nonneg _) ?_ | refine fun (_ : Nat) => ?_ | refine Ord.go ?_ | refine Run.go rfl ?_ | refine Cont.go rfl ?_ | refine OrdP.go ?_)
              refine fun r hr => ?_
              obtain rfl := add1 hr (by omega)
              repeat (first | refine Ops.go ?_ | refine And.intro rfl ?_ | refine And.intro (Nat.le_of_ble_eq_true rfl) ?_ | refine And.intro (Int.natCast_nonneg _) ?_ | refine fun (_ : Nat) => ?_ | refine Ord.go ?_ | refine Run.go rfl ?_ | refine Cont.go rfl ?_ | refine OrdP.go ?_)
              refine Cont.lpW ?_
              refine ⟨m - (i + 1), [.junk, .junk, .junk, .ptr 0 gs 0, .junk, .junk, .ptr 1 gr 0, .junk, .junk, .junk, .junk, .junk, .junk, .junk, .junk, .junk, .junk, .junk, .junk, .junk, .junk, .junk, .junk, .junk, .junk, .junk, .junk, .junk, .junk, .junk, .junk, .junk, .junk, .junk, rdc cs m, .int .i64 m, .int .i64 (i + 1 : Nat), .junk, .junk, .junk, .junk, .junk, .junk, .junk, .junk, .junk, .junk, .junk, .junk, .junk, .junk, .junk, .junk, .junk, .junk, .junk, .junk, .junk, .junk, .junk, .junk, .junk, .junk, .junk, .junk, .junk, .junk, .junk, .junk, .junk, .junk, .junk, .junk, .junk, .junk, .junk, .junk, .junk, .junk, .junk, .junk, .junk, .junk], [(gs, .cells 24 [.int .i64 stamp, .str pl, .int .i64 kd, v]), (gr, .cells 24 [.int .i64 0, .str ⟨#[]⟩, .int .i64 0, .nils]), (g, o)], by omega, Weak.sel ?_ [0, 1, 2] (by decide) ⟨rfl, SubO.cells ⟨Sub.refl _, Sub.refl _, Sub.refl _, Sub.refl _, trivial⟩, rfl, SubO.refl _, rfl, SubO.refl _, trivial⟩,
                ⟨i + 1, l, v, o, gs, gr, g, rfl, by omega, hg, hfd, hv, rfl, rfl⟩⟩
              repeat (first | exact trivial | refine And.intro (Sub.junk _) ?_ | refine And.intro (Sub.refl _) ?_ | refine And.intro (Sub.sl _ _ _ _ _) ?_ | refine And.intro (Sub.ptr _ _ _ _) ?_)
            have hcr := (covers_ref _ _ _ _).1 hcov
            have cc := covers_spec kd pl c.k c.p
            rw [decide_eq_true hcov] at cc
            refine ACall.ret cc ?_
            obtain ⟨j0, rb0, hf0⟩ := found_ex l (parentB c.p)
            rcases hv with ⟨rfl, rfl, rfl⟩ | ⟨Cp, rfl, rfl⟩
            · repeat (first | refine Ops.go ?_ | refine And.intro rfl ?_ | refine And.intro (Nat.le_of_ble_eq_true rfl) ?_ | refine And.intro (Int.natCast_nonneg _) ?_ | refine fun (_ : Nat) => ?_ | refine Ord.go ?_ | refine Run.go rfl ?_ | refine Cont.go rfl ?_ | refine OrdP.go ?_)
              have cf := fold_nil stamp pl kd c j0 rb0 hf0
              refine ACall.pure _ cf ?_
              rintro r L' ⟨i2, b2, j2, rb2, hf, hf2, hsq⟩
              rw [stepP_R hg hk.1 hk.2 hp hcr hf hf2 atL_spec] at hsq
              change StepQ (stepD kd pl _ c) r L' at hsq
              cases hsd : stepD kd pl [] c with
              | none =>
                rw [hsd] at hsq hfd
                obtain ⟨rfl, rfl⟩ := hsq
                refine ⟨_, Sub.refl _, ?_⟩
                repeat (first | refine Ops.go ?_ | refine And.intro rfl ?_ | refine And.intro (Nat.le_of_ble_eq_true rfl) ?_ | refine And.intro (Int.natCast_nonneg _) ?_ | refine fun (_ : Nat) => ?_ | refine Ord.go ?_ | refine Run.go rfl ?_ | refine Cont.go rfl ?_ | refine OrdP.go ?_)
                exact ⟨_, [], FinOk.drop _ _, .inr (.inr (.inl ⟨h1, hst, hfd, rfl, rfl⟩))⟩
              | some l2 =>
                rw [hsd] at hsq hfd
                obtain ⟨g1, v1, o1, hv1, rfl, rfl⟩ := hsq
                have hg2 := stepD_good hg hsd
                rcases hv1 with ⟨rfl, rfl, rfl⟩ | ⟨C1, rfl, rfl⟩
                · refine ⟨_, Sub.refl _, ?_⟩
                  repeat (first | refine Ops.go ?_ | refine And.intro rfl ?_ | refine And.intro (Nat.le_of_ble_eq_true rfl) ?_ | refine And.intro (Int.natCast_nonneg _) ?_ | refine fun (_ : Nat) => ?_ | refine Ord.go ?_ | refine Run.go rfl ?_ | refine Cont.go rfl ?_ | refine OrdP.go ?_)
                  refine fun r hr => ?_
                  obtain rfl := add1 hr (by omega)
                  repeat (first | refine Ops.go ?_ | refine And.intro rfl ?_ | refine And.intro (Nat.le_of_ble_eq_true rfl) ?_ | refine And.intro (Int.natCast_nonneg _) ?_ | refine fun (_ : Nat) => ?_ | refine Ord.go ?_ | refine Run.go rfl ?_ | refine Cont.go rfl ?_ | refine OrdP.go ?_)
                  refine Cont.lpW ?_
                  refine ⟨m - (i + 1), [.junk, .junk, .junk, .ptr 0 gs 0, .junk, .junk, .ptr 1 gr 0, .junk, .junk, .junk, .junk, .junk, .junk, .junk, .junk, .junk, .junk, .junk, .junk, .junk, .junk, .junk, .junk, .junk, .junk, .junk, .junk, .junk, .junk, .junk, .junk, .junk, .junk, .junk, rdc cs m, .int .i64 m, .int .i64 (i + 1 : Nat), .junk, .junk, .junk, .junk, .junk, .junk, .junk, .junk, .junk, .junk, .junk, .junk, .junk, .junk, .junk, .junk, .junk, .junk, .junk, .junk, .junk, .junk, .junk, .junk, .junk, .junk, .junk, .junk, .junk, .junk, .junk, .junk, .junk, .junk, .junk, .junk, .junk, .junk, .junk, .junk, .junk, .junk, .junk, .junk, .junk, .junk], [(gs, .cells 24 [.int .i64 stamp, .str pl, .int .i64 kd, .nils]), (gr, .cells 24 [.int .i64 0, .str ⟨#[]⟩, .int .i64 0, .nils]), (g1, .dead)], by omega, Weak.sel ?_ [0, 1, 4] (by decide) ⟨rfl, SubO.cells ⟨Sub.refl _, Sub.refl _, Sub.refl _, Sub.refl _, trivial⟩, rfl, SubO.refl _, rfl, SubO.refl _, trivial⟩,
                    ⟨i + 1, [], .nils, .dead, gs, gr, g1, rfl, by omega, hg2, hfd, .inl ⟨rfl, rfl, rfl⟩, rfl, rfl⟩⟩
                  repeat (first | exact trivial | refine And.intro (Sub.junk _) ?_ | refine And.intro (Sub.refl _) ?_ | refine And.intro (Sub.sl _ _ _ _ _) ?_ | refine And.intro (Sub.ptr _ _ _ _) ?_)
                · refine ⟨.tuple [.sl 4 g1 C1 l2.length, .bool true], Sub.tuples ⟨Sub.sl _ 4 _ _ _, Sub.refl _, trivial⟩, ?_⟩
                  repeat (first | refine Ops.go ?_ | refine And.intro rfl ?_ | refine And.intro (Nat.le_of_ble_eq_true rfl) ?_ | refine And.intro (Int.natCast_nonneg _) ?_ | refine fun (_ : Nat) => ?_ | refine Ord.go ?_ | refine Run.go rfl ?_ | refine Cont.go rfl ?_ | refine OrdP.go ?_)
                  refine fun r hr => ?_
                  obtain rfl := add1 hr (by omega)
                  repeat (first | refine Ops.go ?_ | refine And.intro rfl ?_ | refine And.intro (Nat.le_of_ble_eq_true rfl) ?_ | refine And.intro (Int.natCast_nonneg _) ?_ | refine fun (_ : Nat) => ?_ | refine Ord.go ?_ | refine Run.go rfl ?_ | refine Cont.go rfl ?_ | refine OrdP.go ?_)
                  refine Cont.lpW ?_
                  refine ⟨m - (i + 1), [.junk, .junk, .junk, .ptr 0 gs 0, .junk, .junk, .ptr 1 gr 0, .junk, .junk, .junk, .junk, .junk, .junk, .junk, .junk, .junk, .junk, .junk, .junk, .junk, .junk, .junk, .junk, .junk, .junk, .junk, .junk, .junk, .junk, .junk, .junk, .junk, .junk, .junk, rdc cs m, .int .i64 m, .int .i64 (i + 1 : Nat), .junk, .junk, .junk, .junk, .junk, .junk, .junk, .junk, .junk, .junk, .junk, .junk, .junk, .junk, .junk, .junk, .junk, .junk, .junk, .junk, .junk, .junk, .junk, .junk, .junk, .junk, .junk, .junk, .junk, .junk, .junk, .junk, .junk, .junk, .junk, .junk, .junk, .junk, .junk, .junk, .junk, .junk, .junk, .junk, .junk, .junk], [(gs, .cells 24 [.int .i64 stamp, .str pl, .int .i64 kd, .sl 2 g1 C1 l2.length]), (gr, .cells 24 [.int .i64 0, .str ⟨#[]⟩, .int .i64 0, .nils]), (g1, .row 50 3 C1 (l2.map enc))], by omega, Weak.sel ?_ [0, 1, 4] (by decide) ⟨rfl, SubO.cells ⟨Sub.refl _, Sub.refl _, Sub.refl _, Sub.sl _ 2 _ _ _, trivial⟩, rfl, SubO.refl _, rfl, SubO.refl _, trivial⟩,
                    ⟨i + 1, l2, .sl 2 g1 C1 l2.length, .row 50 3 C1 (l2.map enc), gs, gr, g1, rfl, by omega, hg2, hfd, .inr ⟨C1, rfl, rfl⟩, rfl, rfl⟩⟩
                  repeat (first | exact trivial | refine And.intro (Sub.junk _) ?_ | refine And.intro (Sub.refl _) ?_ | refine And.intro (Sub.sl _ _ _ _ _) ?_ | refine And.intro (Sub.ptr _ _ _ _) ?_)
            · repeat (first | refine Ops.go ?_ | refine And.intro rfl ?_ | refine And.intro (Nat.le_of_ble_eq_true rfl) ?_ | refine And.intro (Int.natCast_nonneg _) ?_ | refine fun (_ : Nat) => ?_ | refine Ord.go ?_ | refine Run.go rfl ?_ | refine Cont.go rfl ?_ | refine OrdP.go ?_)
              have cf := fold_own stamp pl kd g Cp l c (by have := hg.le; omega) (good_small hg) j0 rb0 hf0
              refine ACall.sel [2] (by decide) [shot stamp pl kd (.sl 0 g Cp l.length), encC c] _ (.two (Sub.aggs ⟨Sub.refl _, Sub.refl _, Sub.refl _, Sub.sl _ 0 _ _ _, trivial⟩) (Sub.refl _)) cf ?_
              rintro r L' ⟨i2, b2, j2, rb2, hf, hf2, hsq⟩
              rw [stepP_R hg hk.1 hk.2 hp hcr hf hf2 atL_spec] at hsq
              change StepQ (stepD kd pl _ c) r L' at hsq
              cases hsd : stepD kd pl l c with
              | none =>
                rw [hsd] at hsq hfd
                obtain ⟨rfl, rfl⟩ := hsq
                refine ⟨_, Sub.refl _, ?_⟩
                repeat (first | refine Ops.go ?_ | refine And.intro rfl ?_ | refine And.intro (Nat.le_of_ble_eq_true rfl) ?_ | refine And.intro (Int.natCast_nonneg _) ?_ | refine fun (_ : Nat) => ?_ | refine Ord.go ?_ | refine Run.go rfl ?_ | refine Cont.go rfl ?_ | refine OrdP.go ?_)
                exact ⟨_, [], FinOk.drop _ _, .inr (.inr (.inl ⟨h1, hst, hfd, rfl, rfl⟩))⟩
              | some l2 =>
                rw [hsd] at hsq hfd
                obtain ⟨g1, v1, o1, hv1, rfl, rfl⟩ := hsq
                have hg2 := stepD_good hg hsd
                rcases hv1 with ⟨rfl, rfl, rfl⟩ | ⟨C1, rfl, rfl⟩
                · refine ⟨_, Sub.refl _, ?_⟩
                  repeat (first | refine Ops.go ?_ | refine And.intro rfl ?_ | refine And.intro (Nat.le_of_ble_eq_true rfl) ?_ | refine And.intro (Int.natCast_nonneg _) ?_ | refine fun (_ : Nat) => ?_ | refine Ord.go ?_ | refine Run.go rfl ?_ | refine Cont.go rfl ?_ | refine OrdP.go ?_)
                  refine fun r hr => ?_
                  obtain rfl := add1 hr (by omega)
                  repeat (first | refine Ops.go ?_ | refine And.intro rfl ?_ | refine And.intro (Nat.le_of_ble_eq_true rfl) ?_ | refine And.intro (Int.natCast_nonneg _) ?_ | refine fun (_ : Nat) => ?_ | refine Ord.go ?_ | refine Run.go rfl ?_ | refine Cont.go rfl ?_ | refine OrdP.go ?_)
                  refine Cont.lpW ?_
                  refine ⟨m - (i + 1), [.junk, .junk, .junk, .ptr 0 gs 0, .junk, .junk, .ptr 1 gr 0, .junk, .junk, .junk, .junk, .junk, .junk, .junk, .junk, .junk, .junk, .junk, .junk, .junk, .junk, .junk, .junk, .junk, .junk, .junk, .junk, .junk, .junk, .junk, .junk, .junk, .junk, .junk, rdc cs m, .int .i64 m, .int .i64 (i + 1 : Nat), .junk, .junk, .junk, .junk, .junk, .junk, .junk, .junk, .junk, .junk, .junk, .junk, .junk, .junk, .junk, .junk, .junk, .junk, .junk, .junk, .junk, .junk, .junk, .junk, .junk, .junk, .junk, .junk, .junk, .junk, .junk, .junk, .junk, .junk, .junk, .junk, .junk, .junk, .junk, .junk, .junk, .junk, .junk, .junk, .junk, .junk], [(gs, .cells 24 [.int .i64 stamp, .str pl, .int .i64 kd, .nils]), (gr, .cells 24 [.int .i64 0, .str ⟨#[]⟩, .int .i64 0, .nils]), (g1, .dead)], by omega, Weak.sel ?_ [0, 1, 2] (by decide) ⟨rfl, SubO.cells ⟨Sub.refl _, Sub.refl _, Sub.refl _, Sub.refl _, trivial⟩, rfl, SubO.refl _, rfl, SubO.refl _, trivial⟩,
                    ⟨i + 1, [], .nils, .dead, gs, gr, g1, rfl, by omega, hg2, hfd, .inl ⟨rfl, rfl, rfl⟩, rfl, rfl⟩⟩
                  repeat (first | exact trivial | refine And.intro (Sub.junk _) ?_ | refine And.intro (Sub.refl _) ?_ | refine And.intro (Sub.sl _ _ _ _ _) ?_ | refine And.intro (Sub.ptr _ _ _ _) ?_)
                · refine ⟨.tuple [.sl 2 g1 C1 l2.length, .bool true], Sub.tuples ⟨Sub.sl _ 2 _ _ _, Sub.refl _, trivial⟩, ?_⟩
                  repeat (first | refine Ops.go ?_ | refine And.intro rfl ?_ | refine And.intro (Nat.le_of_ble_eq_true rfl) ?_ | refine And.intro (Int.natCast_nonneg _) ?_ | refine fun (_ : Nat) => ?_ | refine Ord.go ?_ | refine Run.go rfl ?_ | refine Cont.go rfl ?_ | refine OrdP.go ?_)
                  refine fun r hr => ?_
                  obtain rfl := add1 hr (by omega)
                  repeat (first | refine Ops.go ?_ | refine And.intro rfl ?_ | refine And.intro (Nat.le_of_ble_eq_true rfl) ?_ | refine And.intro (Int.natCast_nonneg _) ?_ | refine fun (_ : Nat) => ?_ | refine Ord.go ?_ | refine Run.go rfl ?_ | refine Cont.go rfl ?_ | refine OrdP.go ?_)
                  refine Cont.lpW ?_
                  refine ⟨m - (i + 1), [.junk, .junk, .junk, .ptr 0 gs 0, .junk, .junk, .ptr 1 gr 0, .junk, .junk, .junk, .junk, .junk, .junk, .junk, .junk, .junk, .junk, .junk, .junk, .junk, .junk, .junk, .junk, .junk, .junk, .junk, .junk, .junk, .junk, .junk, .junk, .junk, .junk, .junk, rdc cs m, .int .i64 m, .int .i64 (i + 1 : Nat), .junk, .junk, .junk, .junk, .junk, .junk, .junk, .junk, .junk, .junk, .junk, .junk, .junk, .junk, .junk, .junk, .junk, .junk, .junk, .junk, .junk, .junk, .junk, .junk, .junk, .junk, .junk, .junk, .junk, .junk, .junk, .junk, .junk, .junk, .junk, .junk, .junk, .junk, .junk, .junk, .junk, .junk, .junk, .junk, .junk, .junk], [(gs, .cells 24 [.int .i64 stamp, .str pl, .int .i64 kd, .sl 2 g1 C1 l2.length]), (gr, .cells 24 [.int .i64 0, .str ⟨#[]⟩, .int .i64 0, .nils]), (g1, .row 50 3 C1 (l2.map enc))], by omega, Weak.sel ?_ [0, 1, 2] (by decide) ⟨rfl, SubO.cells ⟨Sub.refl _, Sub.refl _, Sub.refl _, Sub.sl _ 2 _ _ _, trivial⟩, rfl, SubO.refl _, rfl, SubO.refl _, trivial⟩,
                    ⟨i + 1, l2, .sl 2 g1 C1 l2.length, .row 50 3 C1 (l2.map enc), gs, gr, g1, rfl, by omega, hg2, hfd, .inr ⟨C1, rfl, rfl⟩, rfl, rfl⟩⟩
                  repeat (first | exact trivial | refine And.intro (Sub.junk _) ?_ | refine And.intro (Sub.refl _) ?_ | refine And.intro (Sub.sl _ _ _ _ _) ?_ | refine And.intro (Sub.ptr _ _ _ _) ?_)
        · have k2 : ¬ c.k ≠ 2 := h
          have hk : 1 ≤ c.k ∧ c.k ≤ 3 := by omega
          have hgd : ¬ (c.k < 1 ∨ 3 < c.k) := by omega
          repeat (first | refine Ops.go ?_ | refine And.intro rfl ?_ | refine And.intro (Nat.le_of_ble_eq_true rfl) ?_ | refine And.intro (Int.natCast_nonneg _) ?_ | refine fun (_ : Nat) => ?_ | refine Ord.go ?_ | refine Run.go rfl ?_ | refine Cont.go rfl ?_ | refine OrdP.go ?_)
          by_cases hp : parseE c.p = 0
          case neg =>
            have ci := isPlace_spec c.p
            rw [decide_eq_false hp] at ci
            refine ACall.ret ci ?_
            repeat (first | refine Ops.go ?_ | refine And.intro rfl ?_ | refine And.intro (Nat.le_of_ble_eq_true rfl) ?_ | refine And.intro (Int.natCast_nonneg _) ?_ | refine fun (_ : Nat) => ?_ | refine Ord.go ?_ | refine Run.go rfl ?_ | refine Cont.go rfl ?_ | refine OrdP.go ?_)
            exact ⟨_, [], FinOk.drop _ _, .inr (.inr (.inl ⟨h1, hst, badD (.inr (.inr hp)), rfl, rfl⟩))⟩
          have ci := isPlace_spec c.p
          rw [decide_eq_true hp] at ci
          refine ACall.ret ci ?_
          repeat (first | refine Ops.go ?_ | refine And.intro rfl ?_ | refine And.intro (Nat.le_of_ble_eq_true rfl) ?_ | refine And.intro (Int.natCast_nonneg _) ?_ | refine fun (_ : Nat) => ?_ | refine Ord.go ?_ | refine Run.go rfl ?_ | refine Cont.go rfl ?_ | refine OrdP.go ?_)
          by_cases hcov : coversP kd pl c.k c.p
          case neg =>
            have cc := covers_spec kd pl c.k c.p
            rw [decide_eq_false hcov] at cc
            refine ACall.ret cc ?_
            have hsd : stepD kd pl l c = some l := by
              unfold stepD stepR
              rw [if_neg (show ¬ (c.k < 1 ∨ 3 < c.k ∨ parseE c.p ≠ 0) by rintro (h | h | h); omega; omega; exact h hp), if_pos (fun h => hcov ((covers_ref _ _ _ _).2 h))]
            rw [hsd] at hfd
            repeat (first | refine Ops.go ?_ | refine And.intro rfl ?_ | refine And.intro (Nat.le_of_ble_eq_true rfl) ?_ | refine And.intro (Int.natCast_nonneg _) ?_ | refine fun (_ : Nat) => ?_ | refine Ord.go ?_ | refine Run.go rfl ?_ | refine Cont.go rfl ?_ | refine OrdP.go ?_)
            refine fun r hr => ?_
            obtain rfl := add1 hr (by omega)
            repeat (first | refine Ops.go ?_ | refine And.intro rfl ?_ | refine And.intro (Nat.le_of_ble_eq_true rfl) ?_ | refine And.intro (Int.natCast_nonneg _) ?_ | refine fun (_ : Nat) => ?_ | refine Ord.go ?_ | refine Run.go rfl ?_ | refine Cont.go rfl ?_ | refine OrdP.go ?_)
            refine Cont.lpW ?_
            refine ⟨m - (i + 1), [.junk, .junk, .junk, .ptr 0 gs 0, .junk, .junk, .ptr 1 gr 0, .junk, .junk, .junk, .junk, .junk, .junk, .junk, .junk, .junk, .junk, .junk, .junk, .junk, .junk, .junk, .junk, .junk, .junk, .junk, .junk, .junk, .junk, .junk, .junk, .junk, .junk, .junk, rdc cs m, .int .i64 m, .int .i64 (i + 1 : Nat), .junk, .junk, .junk, .junk, .junk, .junk, .junk, .junk, .junk, .junk, .junk, .junk, .junk, .junk, .junk, .junk, .junk, .junk, .junk, .junk, .junk, .junk, .junk, .junk, .junk, .junk, .junk, .junk, .junk, .junk, .junk, .junk, .junk, .junk, .junk, .junk, .junk, .junk, .junk, .junk, .junk, .junk, .junk, .junk, .junk, .junk], [(gs, .cells 24 [.int .i64 stamp, .str pl, .int .i64 kd, v]), (gr, .cells 24 [.int .i64 0, .str ⟨#[]⟩, .int .i64 0, .nils]), (g, o)], by omega, Weak.sel ?_ [0, 1, 2] (by decide) ⟨rfl, SubO.cells ⟨Sub.refl _, Sub.refl _, Sub.refl _, Sub.refl _, trivial⟩, rfl, SubO.refl _, rfl, SubO.refl _, trivial⟩,
              ⟨i + 1, l, v, o, gs, gr, g, rfl, by omega, hg, hfd, hv, rfl, rfl⟩⟩
            repeat (first | exact trivial | refine And.intro (Sub.junk _) ?_ | refine And.intro (Sub.refl _) ?_ | refine And.intro (Sub.sl _ _ _ _ _) ?_ | refine And.intro (Sub.ptr _ _ _ _) ?_)
          have hcr := (covers_ref _ _ _ _).1 hcov
          have cc := covers_spec kd pl c.k c.p
          rw [decide_eq_true hcov] at cc
          refine ACall.ret cc ?_
          obtain ⟨j0, rb0, hf0⟩ := found_ex l (parentB c.p)
          rcases hv with ⟨rfl, rfl, rfl⟩ | ⟨Cp, rfl, rfl⟩
          · repeat (first | refine Ops.go ?_ | refine And.intro rfl ?_ | refine And.intro (Nat.le_of_ble_eq_true rfl) ?_ | refine And.intro (Int.natCast_nonneg _) ?_ | refine fun (_ : Nat) => ?_ | refine Ord.go ?_ | refine Run.go rfl ?_ | refine Cont.go rfl ?_ | refine OrdP.go ?_)
            have cf := fold_nil stamp pl kd c j0 rb0 hf0
            refine ACall.pure _ cf ?_
            rintro r L' ⟨i2, b2, j2, rb2, hf, hf2, hsq⟩
            rw [stepP_R hg hk.1 hk.2 hp hcr hf hf2 atL_spec] at hsq
            change StepQ (stepD kd pl _ c) r L' at hsq
            cases hsd : stepD kd pl [] c with
            | none =>
              rw [hsd] at hsq hfd
              obtain ⟨rfl, rfl⟩ := hsq
              refine ⟨_, Sub.refl _, ?_⟩
              repeat (first | refine Ops.go ?_ | refine And.intro rfl ?_ | refine And.intro (Nat.le_of_ble_eq_true rfl) ?_ | refine And.intro (Int.natCast_nonneg _) ?_ | refine fun (_ : Nat) => ?_ | refine Ord.go ?_ | refine Run.go rfl ?_ | refine Cont.go rfl ?_ | refine OrdP.go ?_)
              exact ⟨_, [], FinOk.drop _ _, .inr (.inr (.inl ⟨h1, hst, hfd, rfl, rfl⟩))⟩
            | some l2 =>
              rw [hsd] at hsq hfd
              obtain ⟨g1, v1, o1, hv1, rfl, rfl⟩ := hsq
              have hg2 := stepD_good hg hsd
              rcases hv1 with ⟨rfl, rfl, rfl⟩ | ⟨C1, rfl, rfl⟩
              · refine ⟨_, Sub.refl _, ?_⟩
                repeat (first | refine Ops.go ?_ | refine And.intro rfl ?_ | refine And.intro (Nat.le_of_ble_eq_true rfl) ?_ | refine And.intro (Int.natCast_nonneg _) ?_ | refine fun (_ : Nat) => ?_ | refine Ord.go ?_ | refine Run.go rfl ?_ | refine Cont.go rfl ?_ | refine OrdP.go ?_)
                refine fun r hr => ?_
                obtain rfl := add1 hr (by omega)
                repeat (first | refine Ops.go ?_ | refine And.intro rfl ?_ | refine And.intro (Nat.le_of_ble_eq_true rfl) ?_ | refine And.intro (Int.natCast_nonneg _) ?_ | refine fun (_ : Nat) => ?_ | refine Ord.go ?_ | refine Run.go rfl ?_ | refine Cont.go rfl ?_ | refine OrdP.go ?_)
                refine Cont.lpW ?_
                refine ⟨m - (i + 1), [.junk, .junk, .junk, .ptr 0 gs 0, .junk, .junk, .ptr 1 gr 0, .junk, .junk, .junk, .junk, .junk, .junk, .junk, .junk, .junk, .junk, .junk, .junk, .junk, .junk, .junk, .junk, .junk, .junk, .junk, .junk, .junk, .junk, .junk, .junk, .junk, .junk, .junk, rdc cs m, .int .i64 m, .int .i64 (i + 1 : Nat), .junk, .junk, .junk, .junk, .junk, .junk, .junk, .junk, .junk, .junk, .junk, .junk, .junk, .junk, .junk, .junk, .junk, .junk, .junk, .junk, .junk, .junk, .junk, .junk, .junk, .junk, .junk, .junk, .junk, .junk, .junk, .junk, .junk, .junk, .junk, .junk, .junk, .junk, .junk, .junk, .junk, .junk, .junk, .junk, .junk, .junk], [(gs, .cells 24 [.int .i64 stamp, .str pl, .int .i64 kd, .nils]), (gr, .cells 24 [.int .i64 0, .str ⟨#[]⟩, .int .i64 0, .nils]), (g1, .dead)], by omega, Weak.sel ?_ [0, 1, 4] (by decide) ⟨rfl, SubO.cells ⟨Sub.refl _, Sub.refl _, Sub.refl _, Sub.refl _, trivial⟩, rfl, SubO.refl _, rfl, SubO.refl _, trivial⟩,
                  ⟨i + 1, [], .nils, .dead, gs, gr, g1, rfl, by omega, hg2, hfd, .inl ⟨rfl, rfl, rfl⟩, rfl, rfl⟩⟩
                repeat (first | exact trivial | refine And.intro (Sub.junk _) ?_ | refine And.intro (Sub.refl _) ?_ | refine And.intro (Sub.sl _ _ _ _ _) ?_ | refine And.intro (Sub.ptr _ _ _ _) ?_)
              · refine ⟨.tuple [.sl 4 g1 C1 l2.length, .bool true], Sub.tuples ⟨Sub.sl _ 4 _ _ _, Sub.refl _, trivial⟩, ?_⟩
                repeat (first | refine Ops.go ?_ | refine And.intro rfl ?_ | refine And.intro (Nat.le_of_ble_eq_true rfl) ?_ | refine And.intro (Int.natCast_nonneg _) ?_ | refine fun (_ : Nat) => ?_ | refine Ord.go ?_ | refine Run.go rfl ?_ | refine Cont.go rfl ?_ | refine OrdP.go ?_)
                refine fun r hr => ?_
                obtain rfl := add1 hr (by omega)
                repeat (first | refine Ops.go ?_ | refine And.intro rfl ?_ | refine And.intro (Nat.le_of_ble_eq_true rfl) ?_ | refine And.intro (Int.natCast_nonneg _) ?_ | refine fun (_ : Nat) => ?_ | refine Ord.go ?_ | refine Run.go rfl ?_ | refine Cont.go rfl ?_ | refine OrdP.go ?_)
                refine Cont.lpW ?_
                refine ⟨m - (i + 1), [.junk, .junk, .junk, .ptr 0 gs 0, .junk, .junk, .ptr 1 gr 0, .junk, .junk, .junk, .junk, .junk, .junk, .junk, .junk, .junk, .junk, .junk, .junk, .junk, .junk, .junk, .junk, .junk, .junk, .junk, .junk, .junk, .junk, .junk, .junk, .junk, .junk, .junk, rdc cs m, .int .i64 m, .int .i64 (i + 1 : Nat), .junk, .junk, .junk, .junk, .junk, .junk, .junk, .junk, .junk, .junk, .junk, .junk, .junk, .junk, .junk, .junk, .junk, .junk, .junk, .junk, .junk, .junk, .junk, .junk, .junk, .junk, .junk, .junk, .junk, .junk, .junk, .junk, .junk, .junk, .junk, .junk, .junk, .junk, .junk, .junk, .junk, .junk, .junk, .junk, .junk, .junk], [(gs, .cells 24 [.int .i64 stamp, .str pl, .int .i64 kd, .sl 2 g1 C1 l2.length]), (gr, .cells 24 [.int .i64 0, .str ⟨#[]⟩, .int .i64 0, .nils]), (g1, .row 50 3 C1 (l2.map enc))], by omega, Weak.sel ?_ [0, 1, 4] (by decide) ⟨rfl, SubO.cells ⟨Sub.refl _, Sub.refl _, Sub.refl _, Sub.sl _ 2 _ _ _, trivial⟩, rfl, SubO.refl _, rfl, SubO.refl _, trivial⟩,
                  ⟨i + 1, l2, .sl 2 g1 C1 l2.length, .row 50 3 C1 (l2.map enc), gs, gr, g1, rfl, by omega, hg2, hfd, .inr ⟨C1, rfl, rfl⟩, rfl, rfl⟩⟩
                repeat (first | exact trivial | refine And.intro (Sub.junk _) ?_ | refine And.intro (Sub.refl _) ?_ | refine And.intro (Sub.sl _ _ _ _ _) ?_ | refine And.intro (Sub.ptr _ _ _ _) ?_)
          · repeat (first | refine Ops.go ?_ | refine And.intro rfl ?_ | refine And.intro (Nat.le_of_ble_eq_true rfl) ?_ | refine And.intro (Int.natCast_nonneg _) ?_ | refine fun (_ : Nat) => ?_ | refine Ord.go ?_ | refine Run.go rfl ?_ | refine Cont.go rfl ?_ | refine OrdP.go ?_)
            have cf := fold_own stamp pl kd g Cp l c (by have := hg.le; omega) (good_small hg) j0 rb0 hf0
            refine ACall.sel [2] (by decide) [shot stamp pl kd (.sl 0 g Cp l.length), encC c] _ (.two (Sub.aggs ⟨Sub.refl _, Sub.refl _, Sub.refl _, Sub.sl _ 0 _ _ _, trivial⟩) (Sub.refl _)) cf ?_
            rintro r L' ⟨i2, b2, j2, rb2, hf, hf2, hsq⟩
            rw [stepP_R hg hk.1 hk.2 hp hcr hf hf2 atL_spec] at hsq
            change StepQ (stepD kd pl _ c) r L' at hsq
            cases hsd : stepD kd pl l c with
            | none =>
              rw [hsd] at hsq hfd
              obtain ⟨rfl, rfl⟩ := hsq
              refine ⟨_, Sub.refl _, ?_⟩
              repeat (first | refine Ops.go ?_ | refine And.intro rfl ?_ | refine And.intro (Nat.le_of_ble_eq_true rfl) ?_ | refine And.intro (Int.natCast_nonneg _) ?_ | refine fun (_ : Nat) => ?_ | refine Ord.go ?_ | refine Run.go rfl ?_ | refine Cont.go rfl ?_ | refine OrdP.go ?_)
              exact ⟨_, [], FinOk.drop _ _, .inr (.inr (.inl ⟨h1, hst, hfd, rfl, rfl⟩))⟩
            | some l2 =>
              rw [hsd] at hsq hfd
              obtain ⟨g1, v1, o1, hv1, rfl, rfl⟩ := hsq
              have hg2 := stepD_good hg hsd
              rcases hv1 with ⟨rfl, rfl, rfl⟩ | ⟨C1, rfl, rfl⟩
              · refine ⟨_, Sub.refl _, ?_⟩
                repeat (first | refine Ops.go ?_ | refine And.intro rfl ?_ | refine And.intro (Nat.le_of_ble_eq_true rfl) ?_ | refine And.intro (Int.natCast_nonneg _) ?_ | refine fun (_ : Nat) => ?_ | refine Ord.go ?_ | refine Run.go rfl ?_ | refine Cont.go rfl ?_ | refine OrdP.go ?_)
                refine fun r hr => ?_
                obtain rfl := add1 hr (by omega)
                repeat (first | refine Ops.go ?_ | refine And.intro rfl ?_ | refine And.intro (Nat.le_of_ble_eq_true rfl) ?_ | refine And.intro (Int.natCast_nonneg _) ?_ | refine fun (_ : Nat) => ?_ | refine Ord.go ?_ | refine Run.go rfl ?_ | refine Cont.go rfl ?_ | refine OrdP.go ?_)
                refine Cont.lpW ?_
                refine ⟨m - (i + 1), [.junk, .junk, .junk, .ptr 0 gs 0, .junk, .junk, .ptr 1 gr 0, .junk, .junk, .junk, .junk, .junk, .junk, .junk, .junk, .junk, .junk, .junk, .junk, .junk, .junk, .junk, .junk, .junk, .junk, .junk, .junk, .junk, .junk, .junk, .junk, .junk, .junk, .junk, rdc cs m, .int .i64 m, .int .i64 (i + 1 : Nat), .junk, .junk, .junk, .junk, .junk, .junk, .junk, .junk, .junk, .junk, .junk, .junk, .junk, .junk, .junk, .junk, .junk, .junk, .junk, .junk, .junk, .junk, .junk, .junk, .junk, .junk, .junk, .junk, .junk, .junk, .junk, .junk, .junk, .junk, .junk, .junk, .junk, .junk, .junk, .junk, .junk, .junk, .junk, .junk, .junk, .junk], [(gs, .cells 24 [.int .i64 stamp, .str pl, .int .i64 kd, .nils]), (gr, .cells 24 [.int .i64 0, .str ⟨#[]⟩, .int .i64 0, .nils]), (g1, .dead)], by omega, Weak.sel ?_ [0, 1, 2] (by decide) ⟨rfl, SubO.cells ⟨Sub.refl _, Sub.refl _, Sub.refl _, Sub.refl _, trivial⟩, rfl, SubO.refl _, rfl, SubO.refl _, trivial⟩,
                  ⟨i + 1, [], .nils, .dead, gs, gr, g1, rfl, by omega, hg2, hfd, .inl ⟨rfl, rfl, rfl⟩, rfl, rfl⟩⟩
                repeat (first | exact trivial | refine And.intro (Sub.junk _) ?_ | refine And.intro (Sub.refl _) ?_ | refine And.intro (Sub.sl _ _ _ _ _) ?_ | refine And.intro (Sub.ptr _ _ _ _) ?_)
              · refine ⟨.tuple [.sl 2 g1 C1 l2.length, .bool true], Sub.tuples ⟨Sub.sl _ 2 _ _ _, Sub.refl _, trivial⟩, ?_⟩
                repeat (first | refine Ops.go ?_ | refine And.intro rfl ?_ | refine And.intro (Nat.le_of_ble_eq_true rfl) ?_ | refine And.intro (Int.natCast_nonneg _) ?_ | refine fun (_ : Nat) => ?_ | refine Ord.go ?_ | refine Run.go rfl ?_ | refine Cont.go rfl ?_ | refine OrdP.go ?_)
                refine fun r hr => ?_
                obtain rfl := add1 hr (by omega)
                repeat (first | refine Ops.go ?_ | refine And.intro rfl ?_ | refine And.intro (Nat.le_of_ble_eq_true rfl) ?_ | refine And.intro (Int.natCast_nonneg _) ?_ | refine fun (_ : Nat) => ?_ | refine Ord.go ?_ | refine Run.go rfl ?_ | refine Cont.go rfl ?_ | refine OrdP.go ?_)
                refine Cont.lpW ?_
                refine ⟨m - (i + 1), [.junk, .junk, .junk, .ptr 0 gs 0, .junk, .junk, .ptr 1 gr 0, .junk, .junk, .junk, .junk, .junk, .junk, .junk, .junk, .junk, .junk, .junk, .junk, .junk, .junk, .junk, .junk, .junk, .junk, .junk, .junk, .junk, .junk, .junk, .junk, .junk, .junk, .junk, rdc cs m, .int .i64 m, .int .i64 (i + 1 : Nat), .junk, .junk, .junk, .junk, .junk, .junk, .junk, .junk, .junk, .junk, .junk, .junk, .junk, .junk, .junk, .junk, .junk, .junk, .junk, .junk, .junk, .junk, .junk, .junk, .junk, .junk, .junk, .junk, .junk, .junk, .junk, .junk, .junk, .junk, .junk, .junk, .junk, .junk, .junk, .junk, .junk, .junk, .junk, .junk, .junk, .junk], [(gs, .cells 24 [.int .i64 stamp, .str pl, .int .i64 kd, .sl 2 g1 C1 l2.length]), (gr, .cells 24 [.int .i64 0, .str ⟨#[]⟩, .int .i64 0, .nils]), (g1, .row 50 3 C1 (l2.map enc))], by omega, Weak.sel ?_ [0, 1, 2] (by decide) ⟨rfl, SubO.cells ⟨Sub.refl _, Sub.refl _, Sub.refl _, Sub.sl _ 2 _ _ _, trivial⟩, rfl, SubO.refl _, rfl, SubO.refl _, trivial⟩,
                  ⟨i + 1, l2, .sl 2 g1 C1 l2.length, .row 50 3 C1 (l2.map enc), gs, gr, g1, rfl, by omega, hg2, hfd, .inr ⟨C1, rfl, rfl⟩, rfl, rfl⟩⟩
                repeat (first | exact trivial | refine And.intro (Sub.junk _) ?_ | refine And.intro (Sub.refl _) ?_ | refine And.intro (Sub.sl _ _ _ _ _) ?_ | refine And.intro (Sub.ptr _ _ _ _) ?_)
      · have k1 : ¬ c.k ≠ 1 := h
        have hk : 1 ≤ c.k ∧ c.k ≤ 3 := by omega
        have hgd : ¬ (c.k < 1 ∨ 3 < c.k) := by omega
        repeat (first | refine Ops.go ?_ | refine And.intro rfl ?_ | refine And.intro (Nat.le_of_ble_eq_true rfl) ?_ | refine And.intro (Int.natCast_nonneg _) ?_ | refine fun (_ : Nat) => ?_ | refine Ord.go ?_ | refine Run.go rfl ?_ | refine Cont.go rfl ?_ | refine OrdP.go ?_)
        by_cases hp : parseE c.p = 0
        case neg =>
          have ci := isPlace_spec c.p
          rw [decide_eq_false hp] at ci
          refine ACall.ret ci ?_
          repeat (first | refine Ops.go ?_ | refine And.intro rfl ?_ | refine And.intro (Nat.le_of_ble_eq_true rfl) ?_ | refine And.intro (Int.natCast_nonneg _) ?_ | refine fun (_ : Nat) => ?_ | refine Ord.go ?_ | refine Run.go rfl ?_ | refine Cont.go rfl ?_ | refine OrdP.go ?_)
          exact ⟨_, [], FinOk.drop _ _, .inr (.inr (.inl ⟨h1, hst, badD (.inr (.inr hp)), rfl, rfl⟩))⟩
        have ci := isPlace_spec c.p
        rw [decide_eq_true hp] at ci
        refine ACall.ret ci ?_
        repeat (first | refine Ops.go ?_ | refine And.intro rfl ?_ | refine And.intro (Nat.le_of_ble_eq_true rfl) ?_ | refine And.intro (Int.natCast_nonneg _) ?_ | refine fun (_ : Nat) => ?_ | refine Ord.go ?_ | refine Run.go rfl ?_ | refine Cont.go rfl ?_ | refine OrdP.go ?_)
        by_cases hcov : coversP kd pl c.k c.p
        case neg =>
          have cc := covers_spec kd pl c.k c.p
          rw [decide_eq_false hcov] at cc
          refine ACall.ret cc ?_
          have hsd : stepD kd pl l c = some l := by
            unfold stepD stepR
            rw [if_neg (show ¬ (c.k < 1 ∨ 3 < c.k ∨ parseE c.p ≠ 0) by rintro (h | h | h); omega; omega; exact h hp), if_pos (fun h => hcov ((covers_ref _ _ _ _).2 h))]
          rw [hsd] at hfd
          repeat (first | refine Ops.go ?_ | refine And.intro rfl ?_ | refine And.intro (Nat.le_of_ble_eq_true rfl) ?_ | refine And.intro (Int.natCast_nonneg _) ?_ | refine fun (_ : Nat) => ?_ | refine Ord.go ?_ | refine Run.go rfl ?_ | refine Cont.go rfl ?_ | refine OrdP.go ?_)
          refine fun r hr => ?_
          obtain rfl := add1 hr (by omega)
          repeat (first | refine Ops.go ?_ | refine And.intro rfl ?_ | refine And.intro (Nat.le_of_ble_eq_true rfl) ?_ | refine And.intro (Int.natCast_nonneg _) ?_ | refine fun (_ : Nat) => ?_ | refine Ord.go ?_ | refine Run.go rfl ?_ | refine Cont.go rfl ?_ | refine OrdP.go ?_)
          refine Cont.lpW ?_
          refine ⟨m - (i + 1), [.junk, .junk, .junk, .ptr 0 gs 0, .junk, .junk, .ptr 1 gr 0, .junk, .junk, .junk, .junk, .junk, .junk, .junk, .junk, .junk, .junk, .junk, .junk, .junk, .junk, .junk, .junk, .junk, .junk, .junk, .junk, .junk, .junk, .junk, .junk, .junk, .junk, .junk, rdc cs m, .int .i64 m, .int .i64 (i + 1 : Nat), .junk, .junk, .junk, .junk, .junk, .junk, .junk, .junk, .junk, .junk, .junk, .junk, .junk, .junk, .junk, .junk, .junk, .junk, .junk, .junk, .junk, .junk, .junk, .junk, .junk, .junk, .junk, .junk, .junk, .junk, .junk, .junk, .junk, .junk, .junk, .junk, .junk, .junk, .junk, .junk, .junk, .junk, .junk, .junk, .junk, .junk], [(gs, .cells 24 [.int .i64 stamp, .str pl, .int .i64 kd, v]), (gr, .cells 24 [.int .i64 0, .str ⟨#[]⟩, .int .i64 0, .nils]), (g, o)], by omega, Weak.sel ?_ [0, 1, 2] (by decide) ⟨rfl, SubO.cells ⟨Sub.refl _, Sub.refl _, Sub.refl _, Sub.refl _, trivial⟩, rfl, SubO.refl _, rfl, SubO.refl _, trivial⟩,
            ⟨i + 1, l, v, o, gs, gr, g, rfl, by omega, hg, hfd, hv, rfl, rfl⟩⟩
          repeat (first | exact trivial | refine And.intro (Sub.junk _) ?_ | refine And.intro (Sub.refl _) ?_ | refine And.intro (Sub.sl _ _ _ _ _) ?_ | refine And.intro (Sub.ptr _ _ _ _) ?_)
        have hcr := (covers_ref _ _ _ _).1 hcov
        have cc := covers_spec kd pl c.k c.p
        rw [decide_eq_true hcov] at cc
        refine ACall.ret cc ?_
        obtain ⟨j0, rb0, hf0⟩ := found_ex l (parentB c.p)
        rcases hv with ⟨rfl, rfl, rfl⟩ | ⟨Cp, rfl, rfl⟩
        · repeat (first | refine Ops.go ?_ | refine And.intro rfl ?_ | refine And.intro (Nat.le_of_ble_eq_true rfl) ?_ | refine And.intro (Int.natCast_nonneg _) ?_ | refine fun (_ : Nat) => ?_ | refine Ord.go ?_ | refine Run.go rfl ?_ | refine Cont.go rfl ?_ | refine OrdP.go ?_)
          have cf := fold_nil stamp pl kd c j0 rb0 hf0
          refine ACall.pure _ cf ?_
          rintro r L' ⟨i2, b2, j2, rb2, hf, hf2, hsq⟩
          rw [stepP_R hg hk.1 hk.2 hp hcr hf hf2 atL_spec] at hsq
          change StepQ (stepD kd pl _ c) r L' at hsq
          cases hsd : stepD kd pl [] c with
          | none =>
            rw [hsd] at hsq hfd
            obtain ⟨rfl, rfl⟩ := hsq
            refine ⟨_, Sub.refl _, ?_⟩
            repeat (first | refine Ops.go ?_ | refine And.intro rfl ?_ | refine And.intro (Nat.le_of_ble_eq_true rfl) ?_ | refine And.intro (Int.natCast_nonneg _) ?_ | refine fun (_ : Nat) => ?_ | refine Ord.go ?_ | refine Run.go rfl ?_ | refine Cont.go rfl ?_ | refine OrdP.go ?_)
            exact ⟨_, [], FinOk.drop _ _, .inr (.inr (.inl ⟨h1, hst, hfd, rfl, rfl⟩))⟩
          | some l2 =>
            rw [hsd] at hsq hfd
            obtain ⟨g1, v1, o1, hv1, rfl, rfl⟩ := hsq
            have hg2 := stepD_good hg hsd
            rcases hv1 with ⟨rfl, rfl, rfl⟩ | ⟨C1, rfl, rfl⟩
            · refine ⟨_, Sub.refl _, ?_⟩
              repeat (first | refine Ops.go ?_ | refine And.intro rfl ?_ | refine And.intro (Nat.le_of_ble_eq_true rfl) ?_ | refine And.intro (Int.natCast_nonneg _) ?_ | refine fun (_ : Nat) => ?_ | refine Ord.go ?_ | refine Run.go rfl ?_ | refine Cont.go rfl ?_ | refine OrdP.go ?_)
              refine fun r hr => ?_
              obtain rfl := add1 hr (by omega)
              repeat (first | refine Ops.go ?_ | refine And.intro rfl ?_ | refine And.intro (Nat.le_of_ble_eq_true rfl) ?_ | refine And.intro (Int.natCast_nonneg _) ?_ | refine fun (_ : Nat) => ?_ | refine Ord.go ?_ | refine Run.go rfl ?_ | refine Cont.go rfl ?_ | refine OrdP.go ?_)
              refine Cont.lpW ?_
              refine ⟨m - (i + 1), [.junk, .junk, .junk, .ptr 0 gs 0, .junk, .junk, .ptr 1 gr 0, .junk, .junk, .junk, .junk, .junk, .junk, .junk, .junk, .junk, .junk, .junk, .junk, .junk, .junk, .junk, .junk, .junk, .junk, .junk, .junk, .junk, .junk, .junk, .junk, .junk, .junk, .junk, rdc cs m, .int .i64 m, .int .i64 (i + 1 : Nat), .junk, .junk, .junk, .junk, .junk, .junk, .junk, .junk, .junk, .junk, .junk, .junk, .junk, .junk, .junk, .junk, .junk, .junk, .junk, .junk, .junk, .junk, .junk, .junk, .junk, .junk, .junk, .junk, .junk, .junk, .junk, .junk, .junk, .junk, .junk, .junk, .junk, .junk, .junk, .junk, .junk, .junk, .junk, .junk, .junk, .junk], [(gs, .cells 24 [.int .i64 stamp, .str pl, .int .i64 kd, .nils]), (gr, .cells 24 [.int .i64 0, .str ⟨#[]⟩, .int .i64 0, .nils]), (g1, .dead)], by omega, Weak.sel ?_ [0, 1, 4] (by decide) ⟨rfl, SubO.cells ⟨Sub.refl _, Sub.refl _, Sub.refl _, Sub.refl _, trivial⟩, rfl, SubO.refl _, rfl, SubO.refl _, trivial⟩,
                ⟨i + 1, [], .nils, .dead, gs, gr, g1, rfl, by omega, hg2, hfd, .inl ⟨rfl, rfl, rfl⟩, rfl, rfl⟩⟩
              repeat (first | exact trivial | refine And.intro (Sub.junk _) ?_ | refine And.intro (Sub.refl _) ?_ | refine And.intro (Sub.sl _ _ _ _ _) ?_ | refine And.intro (Sub.ptr _ _ _ _) ?_)
            · refine ⟨.tuple [.sl 4 g1 C1 l2.length, .bool true], Sub.tuples ⟨Sub.sl _ 4 _ _ _, Sub.refl _, trivial⟩, ?_⟩
              repeat (first | refine Ops.go ?_ | refine And.intro rfl ?_ | refine And.intro (Nat.le_of_ble_eq_true rfl) ?_ | refine And.intro (Int.natCast_nonneg _) ?_ | refine fun (_ : Nat) => ?_ | refine Ord.go ?_ | refine Run.go rfl ?_ | refine Cont.go rfl ?_ | refine OrdP.go ?_)
              refine fun r hr => ?_
              obtain rfl := add1 hr (by omega)
              repeat (first | refine Ops.go ?_ | refine And.intro rfl ?_ | refine And.intro (Nat.le_of_ble_eq_true rfl) ?_ | refine And.intro (Int.natCast_nonneg _) ?_ | refine fun (_ : Nat) => ?_ | refine Ord.go ?_ | refine Run.go rfl ?_ | refine Cont.go rfl ?_ | refine OrdP.go ?_)
              refine Cont.lpW ?_
              refine ⟨m - (i + 1), [.junk, .junk, .junk, .ptr 0 gs 0, .junk, .junk, .ptr 1 gr 0, .junk, .junk, .junk, .junk, .junk, .junk, .junk, .junk, .junk, .junk, .junk, .junk, .junk, .junk, .junk, .junk, .junk, .junk, .junk, .junk, .junk, .junk, .junk, .junk, .junk, .junk, .junk, rdc cs m, .int .i64 m, .int .i64 (i + 1 : Nat), .junk, .junk, .junk, .junk, .junk, .junk, .junk, .junk, .junk, .junk, .junk, .junk, .junk, .junk, .junk, .junk, .junk, .junk, .junk, .junk, .junk, .junk, .junk, .junk, .junk, .junk, .junk, .junk, .junk, .junk, .junk, .junk, .junk, .junk, .junk, .junk, .junk, .junk, .junk, .junk, .junk, .junk, .junk, .junk, .junk, .junk], [(gs, .cells 24 [.int .i64 stamp, .str pl, .int .i64 kd, .sl 2 g1 C1 l2.length]), (gr, .cells 24 [.int .i64 0, .str ⟨#[]⟩, .int .i64 0, .nils]), (g1, .row 50 3 C1 (l2.map enc))], by omega, Weak.sel ?_ [0, 1, 4] (by decide) ⟨rfl, SubO.cells ⟨Sub.refl _, Sub.refl _, Sub.refl _, Sub.sl _ 2 _ _ _, trivial⟩, rfl, SubO.refl _, rfl, SubO.refl _, trivial⟩,
                ⟨i + 1, l2, .sl 2 g1 C1 l2.length, .row 50 3 C1 (l2.map enc), gs, gr, g1, rfl, by omega, hg2, hfd, .inr ⟨C1, rfl, rfl⟩, rfl, rfl⟩⟩
              repeat (first | exact trivial | refine And.intro (Sub.junk _) ?_ | refine And.intro (Sub.refl _) ?_ | refine And.intro (Sub.sl _ _ _ _ _) ?_ | refine And.intro (Sub.ptr _ _ _ _) ?_)
        · repeat (first | refine Ops.go ?_ | refine And.intro rfl ?_ | refine And.intro (Nat.le_of_ble_eq_true rfl) ?_ | refine And.intro (Int.natCast_nonneg _) ?_ | refine fun (_ : Nat) => ?_ | refine Ord.go ?_ | refine Run.go rfl ?_ | refine Cont.go rfl ?_ | refine OrdP.go ?_)
          have cf := fold_own stamp pl kd g Cp l c (by have := hg.le; omega) (good_small hg) j0 rb0 hf0
          refine ACall.sel [2] (by decide) [shot stamp pl kd (.sl 0 g Cp l.length), encC c] _ (.two (Sub.aggs ⟨Sub.refl _, Sub.refl _, Sub.refl _, Sub.sl _ 0 _ _ _, trivial⟩) (Sub.refl _)) cf ?_
          rintro r L' ⟨i2, b2, j2, rb2, hf, hf2, hsq⟩
          rw [stepP_R hg hk.1 hk.2 hp hcr hf hf2 atL_spec] at hsq
          change StepQ (stepD kd pl _ c) r L' at hsq
          cases hsd : stepD kd pl l c with
          | none =>
            rw [hsd] at hsq hfd
            obtain ⟨rfl, rfl⟩ := hsq
            refine ⟨_, Sub.refl _, ?_⟩
            repeat (first | refine Ops.go ?_ | refine And.intro rfl ?_ | refine And.intro (Nat.le_of_ble_eq_true rfl) ?_ | refine And.intro (Int.natCast_nonneg _) ?_ | refine fun (_ : Nat) => ?_ | refine Ord.go ?_ | refine Run.go rfl ?_ | refine Cont.go rfl ?_ | refine OrdP.go ?_)
            exact ⟨_, [], FinOk.drop _ _, .inr (.inr (.inl ⟨h1, hst, hfd, rfl, rfl⟩))⟩
          | some l2 =>
            rw [hsd] at hsq hfd
            obtain ⟨g1, v1, o1, hv1, rfl, rfl⟩ := hsq
            have hg2 := stepD_good hg hsd
            rcases hv1 with ⟨rfl, rfl, rfl⟩ | ⟨C1, rfl, rfl⟩
            · refine ⟨_, Sub.refl _, ?_⟩
              repeat (first | refine Ops.go ?_ | refine And.intro rfl ?_ | refine And.intro (Nat.le_of_ble_eq_true rfl) ?_ | refine And.intro (Int.natCast_nonneg _) ?_ | refine fun (_ : Nat) => ?_ | refine Ord.go ?_ | refine Run.go rfl ?_ | refine Cont.go rfl ?_ | refine OrdP.go ?_)
              refine fun r hr => ?_
              obtain rfl := add1 hr (by omega)
              repeat (first | refine Ops.go ?_ | refine And.intro rfl ?_ | refine And.intro (Nat.le_of_ble_eq_true rfl) ?_ | refine And.intro (Int.natCast_nonneg _) ?_ | refine fun (_ : Nat) => ?_ | refine Ord.go ?_ | refine Run.go rfl ?_ | refine Cont.go rfl ?_ | refine OrdP.go ?_)
              refine Cont.lpW ?_
              refine ⟨m - (i + 1), [.junk, .junk, .junk, .ptr 0 gs 0, .junk, .junk, .ptr 1 gr 0, .junk, .junk, .junk, .junk, .junk, .junk, .junk, .junk, .junk, .junk, .junk, .junk, .junk, .junk, .junk, .junk, .junk, .junk, .junk, .junk, .junk, .junk, .junk, .junk, .junk, .junk, .junk, rdc cs m, .int .i64 m, .int .i64 (i + 1 : Nat), .junk, .junk, .junk, .junk, .junk, .junk, .junk, .junk, .junk, .junk, .junk, .junk, .junk, .junk, .junk, .junk, .junk, .junk, .junk, .junk, .junk, .junk, .junk, .junk, .junk, .junk, .junk, .junk, .junk, .junk, .junk, .junk, .junk, .junk, .junk, .junk, .junk, .junk, .junk, .junk, .junk, .junk, .junk, .junk, .junk, .junk], [(gs, .cells 24 [.int .i64 stamp, .str pl, .int .i64 kd, .nils]), (gr, .cells 24 [.int .i64 0, .str ⟨#[]⟩, .int .i64 0, .nils]), (g1, .dead)], by omega, Weak.sel ?_ [0, 1, 2] (by decide) ⟨rfl, SubO.cells ⟨Sub.refl _, Sub.refl _, Sub.refl _, Sub.refl _, trivial⟩, rfl, SubO.refl _, rfl, SubO.refl _, trivial⟩,
                ⟨i + 1, [], .nils, .dead, gs, gr, g1, rfl, by omega, hg2, hfd, .inl ⟨rfl, rfl, rfl⟩, rfl, rfl⟩⟩
              repeat (first | exact trivial | refine And.intro (Sub.junk _) ?_ | refine And.intro (Sub.refl _) ?_ | refine And.intro (Sub.sl _ _ _ _ _) ?_ | refine And.intro (Sub.ptr _ _ _ _) ?_)
            · refine ⟨.tuple [.sl 2 g1 C1 l2.length, .bool true], Sub.tuples ⟨Sub.sl _ 2 _ _ _, Sub.refl _, trivial⟩, ?_⟩
              repeat (first | refine Ops.go ?_ | refine And.intro rfl ?_ | refine And.intro (Nat.le_of_ble_eq_true rfl) ?_ | refine And.intro (Int.natCast_nonneg _) ?_ | refine fun (_ : Nat) => ?_ | refine Ord.go ?_ | refine Run.go rfl ?_ | refine Cont.go rfl ?_ | refine OrdP.go ?_)
              refine fun r hr => ?_
              obtain rfl := add1 hr (by omega)
              repeat (first | refine Ops.go ?_ | refine And.intro rfl ?_ | refine And.intro (Nat.le_of_ble_eq_true rfl) ?_ | refine And.intro (Int.natCast_nonneg _) ?_ | refine fun (_ : Nat) => ?_ | refine Ord.go ?_ | refine Run.go rfl ?_ | refine Cont.go rfl ?_ | refine OrdP.go ?_)
              refine Cont.lpW ?_
              refine ⟨m - (i + 1), [.junk, .junk, .junk, .ptr 0 gs 0, .junk, .junk, .ptr 1 gr 0, .junk, .junk, .junk, .junk, .junk, .junk, .junk, .junk, .junk, .junk, .junk, .junk, .junk, .junk, .junk, .junk, .junk, .junk, .junk, .junk, .junk, .junk, .junk, .junk, .junk, .junk, .junk, rdc cs m, .int .i64 m, .int .i64 (i + 1 : Nat), .junk, .junk, .junk, .junk, .junk, .junk, .junk, .junk, .junk, .junk, .junk, .junk, .junk, .junk, .junk, .junk, .junk, .junk, .junk, .junk, .junk, .junk, .junk, .junk, .junk, .junk, .junk, .junk, .junk, .junk, .junk, .junk, .junk, .junk, .junk, .junk, .junk, .junk, .junk, .junk, .junk, .junk, .junk, .junk, .junk, .junk], [(gs, .cells 24 [.int .i64 stamp, .str pl, .int .i64 kd, .sl 2 g1 C1 l2.length]), (gr, .cells 24 [.int .i64 0, .str ⟨#[]⟩, .int .i64 0, .nils]), (g1, .row 50 3 C1 (l2.map enc))], by omega, Weak.sel ?_ [0, 1, 2] (by decide) ⟨rfl, SubO.cells ⟨Sub.refl _, Sub.refl _, Sub.refl _, Sub.sl _ 2 _ _ _, trivial⟩, rfl, SubO.refl _, rfl, SubO.refl _, trivial⟩,
                ⟨i + 1, l2, .sl 2 g1 C1 l2.length, .row 50 3 C1 (l2.map enc), gs, gr, g1, rfl, by omega, hg2, hfd, .inr ⟨C1, rfl, rfl⟩, rfl, rfl⟩⟩
              repeat (first | exact trivial | refine And.intro (Sub.junk _) ?_ | refine And.intro (Sub.refl _) ?_ | refine And.intro (Sub.sl _ _ _ _ _) ?_ | refine And.intro (Sub.ptr _ _ _ _) ?_)
    · have h : ¬ (i : Int) < (m : Int) := h
      have e0 : (cs.take m).drop i = [] := List.drop_eq_nil_of_le (by rw [List.length_take]; omega)
      rw [e0] at hfd
      repeat (first | refine Ops.go ?_ | refine And.intro rfl ?_ | refine And.intro (Nat.le_of_ble_eq_true rfl) ?_ | refine And.intro (Int.natCast_nonneg _) ?_ | refine fun (_ : Nat) => ?_ | refine Ord.go ?_ | refine Run.go rfl ?_ | refine Cont.go rfl ?_ | refine OrdP.go ?_)
      obtain ⟨v2, hs2, hv2⟩ := hv.move 0
      exact ⟨.tuple [shot stamp pl kd v2, .int .i64 0], _, FinOk.keep _ [2] (Sub.tuples ⟨Sub.aggs ⟨Sub.refl _, Sub.refl _, Sub.refl _, hs2, trivial⟩, Sub.refl _, trivial⟩) (by decide) rfl, .inr (.inr (.inr ⟨h1, hst, l, hfd, v2, g, o, hv2, rfl, rfl⟩))⟩
  · refine ⟨_, Sub.refl _, ?_⟩
    repeat (first | refine Ops.go ?_ | refine And.intro rfl ?_ | refine And.intro (Nat.le_of_ble_eq_true rfl) ?_ | refine And.intro (Int.natCast_nonneg _) ?_ | refine fun (_ : Nat) => ?_ | refine Ord.go ?_ | refine Run.go rfl ?_ | refine Cont.go rfl ?_ | refine OrdP.go ?_)
    refine Run.loopW (fun k env L => ∃ (i : Nat) (l : List Sn) (v : AV) (o : AObj) (gs gr g : Nat), k = m - i ∧ i ≤ m ∧ Good l ∧ foldD kd pl (xs.take n) (cs.take m) = foldD kd pl l ((cs.take m).drop i) ∧ LN 2 l v g o ∧ env = [.junk, .junk, .junk, .ptr 0 gs 0, .junk, .junk, .ptr 1 gr 0, .junk, .junk, .junk, .junk, .junk, .junk, .junk, .junk, .junk, .junk, .junk, .junk, .junk, .junk, .junk, .junk, .junk, .junk, .junk, .junk, .junk, .junk, .junk, .junk, .junk, .junk, .junk, rdc cs m, .int .i64 m, .int .i64 i, .junk, .junk, .junk, .junk, .junk, .junk, .junk, .junk, .junk, .junk, .junk, .junk, .junk, .junk, .junk, .junk, .junk, .junk, .junk, .junk, .junk, .junk, .junk, .junk, .junk, .junk, .junk, .junk, .junk, .junk, .junk, .junk, .junk, .junk, .junk, .junk, .junk, .junk, .junk, .junk, .junk, .junk, .junk, .junk, .junk, .junk] ∧ L = [(gs, .cells 24 [.int .i64 stamp, .str pl, .int .i64 kd, v]), (gr, .cells 24 [.int .i64 0, .str ⟨#[]⟩, .int .i64 0, .nils]), (g, o)]) m
      [.junk, .junk, .junk, .ptr 0 gs0 0, .junk, .junk, .ptr 1 gr0 0, .junk, .junk, .junk, .junk, .junk, .junk, .junk, .junk, .junk, .junk, .junk, .junk, .junk, .junk, .junk, .junk, .junk, .junk, .junk, .junk, .junk, .junk, .junk, .junk, .junk, .junk, .junk, rdc cs m, .int .i64 m, .int .i64 (0 : Nat), .junk, .junk, .junk, .junk, .junk, .junk, .junk, .junk, .junk, .junk, .junk, .junk, .junk, .junk, .junk, .junk, .junk, .junk, .junk, .junk, .junk, .junk, .junk, .junk, .junk, .junk, .junk, .junk, .junk, .junk, .junk, .junk, .junk, .junk, .junk, .junk, .junk, .junk, .junk, .junk, .junk, .junk, .junk, .junk, .junk, .junk]
      [(gs0, .cells 24 [.int .i64 stamp, .str pl, .int .i64 kd, .nils]), (gr0, .cells 24 [.int .i64 0, .str ⟨#[]⟩, .int .i64 0, .nils]), (0, .dead)]
      (Weak.sel ?_ [0, 1, 9] (by decide) ⟨rfl, SubO.refl _, rfl, SubO.refl _, rfl, trivial, trivial⟩)
      ⟨0, xs.take n, .nils, .dead, gs0, gr0, 0, by omega, by omega, hg0, by rw [List.drop_zero], .inl ⟨by rw [hxs, List.take_nil], rfl, rfl⟩, rfl, rfl⟩ ?_
    · repeat (first | exact trivial | refine And.intro (Sub.junk _) ?_ | refine And.intro (Sub.refl _) ?_ | refine And.intro (Sub.sl _ _ _ _ _) ?_ | refine And.intro (Sub.ptr _ _ _ _) ?_)
    rintro k env L ⟨i, l, v, o, gs, gr, g, rfl, hi, hg, hfd, hv, rfl, rfl⟩
    repeat (first | refine Ops.go ?_ | refine And.intro rfl ?_ | refine And.intro (Nat.le_of_ble_eq_true rfl) ?_ | refine And.intro (Int.natCast_nonneg _) ?_ | refine fun (_ : Nat) => ?_ | refine Ord.go ?_ | refine Run.go rfl ?_ | refine Cont.go rfl ?_ | refine OrdP.go ?_)
    refine ⟨fun h => ?_, fun h => ?_⟩
    · have h : (i : Int) < (m : Int) := h
      obtain ⟨c, ec⟩ : ∃ c, cs[i]? = some c := ⟨cs[i], List.getElem?_eq_getElem (by omega)⟩
      have ed : (cs.take m).drop i = c :: (cs.take m).drop (i + 1) := by
        rw [List.drop_eq_getElem_cons (by rw [List.length_take]; omega)]
        congr 1
        rw [List.getElem_take]
        exact Option.some.inj ((List.getElem?_eq_getElem (by omega)).symm.trans ec)
      rw [ed] at hfd
      rw [foldD_cons] at hfd
      have badD : (c.k < 1 ∨ 3 < c.k ∨ parseE c.p ≠ 0) → foldD kd pl (xs.take n) (cs.take m) = none := fun h => by
        rw [hfd, show stepD kd pl l c = none from by unfold stepD stepR; rw [if_pos h]]
      repeat (first | refine Ops.go ?_ | refine And.intro rfl ?_ | refine And.intro (Nat.le_of_ble_eq_true rfl) ?_ | refine And.intro (Int.natCast_nonneg _) ?_ | refine fun (_ : Nat) => ?_ | refine Ord.go ?_ | refine Run.go rfl ?_ | refine Cont.go rfl ?_ | refine OrdP.go ?_)
      refine ⟨h, encC c, encC_at _ _ _ ec, ?_⟩
      repeat (first | refine Ops.go ?_ | refine And.intro rfl ?_ | refine And.intro (Nat.le_of_ble_eq_true rfl) ?_ | refine And.intro (Int.natCast_nonneg _) ?_ | refine fun (_ : Nat) => ?_ | refine Ord.go ?_ | refine Run.go rfl ?_ | refine Cont.go rfl ?_ | refine OrdP.go ?_)
      refine ⟨fun h => ?_, fun h => ?_⟩
      · have k1 : c.k ≠ 1 := h
        repeat (first | refine Ops.go ?_ | refine And.intro rfl ?_ | refine And.intro (Nat.le_of_ble_eq_true rfl) ?_ | refine And.intro (Int.natCast_nonneg _) ?_ | refine fun (_ : Nat) => ?_ | refine Ord.go ?_ | refine Run.go rfl ?_ | refine Cont.go rfl ?_ | refine OrdP.go ?_)
        refine ⟨fun h => ?_, fun h => ?_⟩
        · have k2 : c.k ≠ 2 := h
          repeat (first | refine Ops.go ?_ | refine And.intro rfl ?_ | refine And.intro (Nat.le_of_ble_eq_true rfl) ?_ | refine And.intro (Int.natCast_nonneg _) ?_ | refine fun (_ : Nat) => ?_ | refine Ord.go ?_ | refine Run.go rfl ?_ | refine Cont.go rfl ?_ | refine OrdP.go ?_)
          refine ⟨fun h => ?_, fun h => ?_⟩
          · have k3 : c.k ≠ 3 := h
            repeat (first | refine Ops.go ?_ | refine And.intro rfl ?_ | refine And.intro (Nat.le_of_ble_eq_true rfl) ?_ | refine And.intro (Int.natCast_nonneg _) ?_ | refine fun (_ : Nat) => ?_ | refine Ord.go ?_ | refine Run.go rfl ?_ | refine Cont.go rfl ?_ | refine OrdP.go ?_)
            exact ⟨_, [], FinOk.drop _ _, .inr (.inr (.inl ⟨h1, hst, badD (by omega), rfl, rfl⟩))⟩
          · have k3 : ¬ c.k ≠ 3 := h
            have hk : 1 ≤ c.k ∧ c.k ≤ 3 := by omega
            have hgd : ¬ (c.k < 1 ∨ 3 < c.k) := by omega
            repeat (first | refine Ops.go ?_ | refine And.intro rfl ?_ | refine And.intro (Nat.le_of_ble_eq_true rfl) ?_ | refine And.intro (Int.natCast_nonneg _) ?_ | refine fun (_ : Nat) => ?_ | refine Ord.go ?_ | refine Run.go rfl ?_ | refine Cont.go rfl ?_ | refine OrdP.go ?_)
            by_cases hp : parseE c.p = 0
            case neg =>
              have ci := isPlace_spec c.p
              rw [decide_eq_false hp] at ci
              refine ACall.ret ci ?_
              repeat (first | refine Ops.go ?_ | refine And.intro rfl ?_ | refine And.intro (Nat.le_of_ble_eq_true rfl) ?_ | refine And.intro (Int.natCast_nonneg _) ?_ | refine fun (_ : Nat) => ?_ | refine Ord.go ?_ | refine Run.go rfl ?_ | refine Cont.go rfl ?_ | refine OrdP.go ?_)
              exact ⟨_, [], FinOk.drop _ _, .inr (.inr (.inl ⟨h1, hst, badD (.inr (.inr hp)), rfl, rfl⟩))⟩
            have ci := isPlace_spec c.p
            rw [decide_eq_true hp] at ci
            refine ACall.ret ci ?_
            repeat (first | refine Ops.go ?_ | refine And.intro rfl ?_ | refine And.intro (Nat.le_of_ble_eq_true rfl) ?_ | refine And.intro (Int.natCast_nonneg _) ?_ | refine fun (_ : Nat) => ?_ | refine Ord.go ?_ | refine Run.go rfl ?_ | refine Cont.go rfl ?_ | refine OrdP.go ?_)
            by_cases hcov : coversP kd pl c.k c.p
            case neg =>
              have cc := covers_spec kd pl c.k c.p
              rw [decide_eq_false hcov] at cc
              refine ACall.ret cc ?_
              have hsd : stepD kd pl l c = some l := by
                unfold stepD stepR
                rw [if_neg (show ¬ (c.k < 1 ∨ 3 < c.k ∨ parseE c.p ≠ 0) by rintro (h | h | h); omega; omega; exact h hp), if_pos (fun h => hcov ((covers_ref _ _ _ _).2 h))]
              rw [hsd] at hfd
              repeat (first | refine Ops.go ?_ | refine And.intro rfl ?_ | refine And.intro (Nat.le_of_ble_eq_true rfl) ?_ | refine And.intro (Int.natCast_nonneg _) ?_ | refine fun (_ : Nat) => ?_ | refine Ord.go ?_ | refine Run.go rfl ?_ | refine Cont.go rfl ?_ | refine OrdP.go ?_)
              refine fun r hr => ?_
              obtain rfl := add1 hr (by omega)
              repeat (first | refine Ops.go ?_ | refine And.intro rfl ?_ | refine And.intro (Nat.le_of_ble_eq_true rfl) ?_ | refine And.intro (Int.natCast_nonneg _) ?_ | refine fun (_ : Nat) => ?_ | refine Ord.go ?_ | refine Run.go rfl ?_ | refine Cont.go rfl ?_ | refine OrdP.go ?_)
              refine Cont.lpW ?_
              refine ⟨m - (i + 1), [.junk, .junk, .junk, .ptr 0 gs 0, .junk, .junk, .ptr 1 gr 0, .junk, .junk, .junk, .junk, .junk, .junk, .junk, .junk, .junk, .junk, .junk, .junk, .junk, .junk, .junk, .junk, .junk, .junk, .junk, .junk, .junk, .junk, .junk, .junk, .junk, .junk, .junk, rdc cs m, .int .i64 m, .int .i64 (i + 1 : Nat), .junk, .junk, .junk, .junk, .junk, .junk, .junk, .junk, .junk, .junk, .junk, .junk, .junk, .junk, .junk, .junk, .junk, .junk, .junk, .junk, .junk, .junk, .junk, .junk, .junk, .junk, .junk, .junk, .junk, .junk, .junk, .junk, .junk, .junk, .junk, .junk, .junk, .junk, .junk, .junk, .junk, .junk, .junk, .junk, .junk, .junk], [(gs, .cells 24 [.int .i64 stamp, .str pl, .int .i64 kd, v]), (gr, .cells 24 [.int .i64 0, .str ⟨#[]⟩, .int .i64 0, .nils]), (g, o)], by omega, Weak.sel ?_ [0, 1, 2] (by decide) ⟨rfl, SubO.cells ⟨Sub.refl _, Sub.refl _, Sub.refl _, Sub.refl _, trivial⟩, rfl, SubO.refl _, rfl, SubO.refl _, trivial⟩,
                ⟨i + 1, l, v, o, gs, gr, g, rfl, by omega, hg, hfd, hv, rfl, rfl⟩⟩
              repeat (first | exact trivial | refine And.intro (Sub.junk _) ?_ | refine And.intro (Sub.refl _) ?_ | refine And.intro (Sub.sl _ _ _ _ _) ?_ | refine And.intro (Sub.ptr _ _ _ _) ?_)
            have hcr := (covers_ref _ _ _ _).1 hcov
            have cc := covers_spec kd pl c.k c.p
            rw [decide_eq_true hcov] at cc
            refine ACall.ret cc ?_
            obtain ⟨j0, rb0, hf0⟩ := found_ex l (parentB c.p)
            rcases hv with ⟨rfl, rfl, rfl⟩ | ⟨Cp, rfl, rfl⟩
            · repeat (first | refine Ops.go ?_ | refine And.intro rfl ?_ | refine And.intro (Nat.le_of_ble_eq_true rfl) ?_ | refine And.intro (Int.natCast_nonneg _) ?_ | refine fun (_ : Nat) => ?_ | refine Ord.go ?_ | refine Run.go rfl ?_ | refine Cont.go rfl ?_ | refine OrdP.go ?_)
              have cf := fold_nil stamp pl kd c j0 rb0 hf0
              refine ACall.pure _ cf ?_
              rintro r L' ⟨i2, b2, j2, rb2, hf, hf2, hsq⟩
              rw [stepP_R hg hk.1 hk.2 hp hcr hf hf2 atL_spec] at hsq
              change StepQ (stepD kd pl _ c) r L' at hsq
              cases hsd : stepD kd pl [] c with
              | none =>
                rw [hsd] at hsq hfd
                obtain ⟨rfl, rfl⟩ := hsq
                refine ⟨_, Sub.refl _, ?_⟩
                repeat (first | refine Ops.go ?_ | refine And.intro rfl ?_ | refine And.intro (Nat.le_of_ble_eq_true rfl) ?_ | refine And.intro (Int.natCast_nonneg _) ?_ | refine fun (_ : Nat) => ?_ | refine Ord.go ?_ | refine Run.go rfl ?_ | refine Cont.go rfl ?_ | refine OrdP.go ?_)
                exact ⟨_, [], FinOk.drop _ _, .inr (.inr (.inl ⟨h1, hst, hfd, rfl, rfl⟩))⟩
              | some l2 =>
                rw [hsd] at hsq hfd
                obtain ⟨g1, v1, o1, hv1, rfl, rfl⟩ := hsq
                have hg2 := stepD_good hg hsd
                rcases hv1 with ⟨rfl, rfl, rfl⟩ | ⟨C1, rfl, rfl⟩
                · refine ⟨_, Sub.refl _, ?_⟩
                  repeat (first | refine Ops.go ?_ | refine And.intro rfl ?_ | refine And.intro (Nat.le_of_ble_eq_true rfl) ?_ | refine And.intro (Int.natCast_nonneg _) ?_ | refine fun (_ : Nat) => ?_ | refine Ord.go ?_ | refine Run.go rfl ?_ | refine Cont.go rfl ?_ | refine OrdP.go ?_)
                  refine fun r hr => ?_
                  obtain rfl := add1 hr (by omega)
                  repeat (first | refine Ops.go ?_ | refine And.intro rfl ?_ | refine And.intro (Nat.le_of_ble_eq_true rfl) ?_ | refine And.intro (Int.natCast_nonneg _) ?_ | refine fun (_ : Nat) => ?_ | refine Ord.go ?_ | refine Run.go rfl ?_ | refine Cont.go rfl ?_ | refine OrdP.go ?_)
                  refine Cont.lpW ?_
                  refine ⟨m - (i + 1), [.junk, .junk, .junk, .ptr 0 gs 0, .junk, .junk, .ptr 1 gr 0, .junk, .junk, .junk, .junk, .junk, .junk, .junk, .junk, .junk, .junk, .junk, .junk, .junk, .junk, .junk, .junk, .junk, .junk, .junk, .junk, .junk, .junk, .junk, .junk, .junk, .junk, .junk, rdc cs m, .int .i64 m, .int .i64 (i + 1 : Nat), .junk, .junk, .junk, .junk, .junk, .junk, .junk, .junk, .junk, .junk, .junk, .junk, .junk, .junk, .junk, .junk, .junk, .junk, .junk, .junk, .junk, .junk, .junk, .junk, .junk, .junk, .junk, .junk, .junk, .junk, .junk, .junk, .junk, .junk, .junk, .junk, .junk, .junk, .junk, .junk, .junk, .junk, .junk, .junk, .junk, .junk], [(gs, .cells 24 [.int .i64 stamp, .str pl, .int .i64 kd, .nils]), (gr, .cells 24 [.int .i64 0, .str ⟨#[]⟩, .int .i64 0, .nils]), (g1, .dead)], by omega, Weak.sel ?_ [0, 1, 4] (by decide) ⟨rfl, SubO.cells ⟨Sub.refl _, Sub.refl _, Sub.refl _, Sub.refl _, trivial⟩, rfl, SubO.refl _, rfl, SubO.refl _, trivial⟩,
                    ⟨i + 1, [], .nils, .dead, gs, gr, g1, rfl, by omega, hg2, hfd, .inl ⟨rfl, rfl, rfl⟩, rfl, rfl⟩⟩
                  repeat (first | exact trivial | refine And.intro (Sub.junk _) ?_ | refine And.intro (Sub.refl _) ?_ | refine And.intro (Sub.sl _ _ _ _ _) ?_ | refine And.intro (Sub.ptr _ _ _ _) ?_)
                · refine ⟨.tuple [.sl 4 g1 C1 l2.length, .bool true], Sub.tuples ⟨Sub.sl _ 4 _ _ _, Sub.refl _, trivial⟩, ?_⟩
                  repeat (first | refine Ops.go ?_ | refine And.intro rfl ?_ | refine And.intro (Nat.le_of_ble_eq_true rfl) ?_ | refine And.intro (Int.natCast_nonneg _) ?_ | refine fun (_ : Nat) => ?_ | refine Ord.go ?_ | refine Run.go rfl ?_ | refine Cont.go rfl ?_ | refine OrdP.go ?_)
                  refine fun r hr => ?_
                  obtain rfl := add1 hr (by omega)
                  repeat (first | refine Ops.go ?_ | refine And.intro rfl ?_ | refine And.intro (Nat.le_of_ble_eq_true rfl) ?_ | refine And.intro (Int.natCast_nonneg _) ?_ | refine fun (_ : Nat) => ?_ | refine Ord.go ?_ | refine Run.go rfl ?_ | refine Cont.go rfl ?_ | refine OrdP.go ?_)
                  refine Cont.lpW ?_
                  refine ⟨m - (i + 1), [.junk, .junk, .junk, .ptr 0 gs 0, .junk, .junk, .ptr 1 gr 0, .junk, .junk, .junk, .junk, .junk, .junk, .junk, .junk, .junk, .junk, .junk, .junk, .junk, .junk, .junk, .junk, .junk, .junk, .junk, .junk, .junk, .junk, .junk, .junk, .junk, .junk, .junk, rdc cs m, .int .i64 m, .int .i64 (i + 1 : Nat), .junk, .junk, .junk, .junk, .junk, .junk, .junk, .junk, .junk, .junk, .junk, .junk, .junk, .junk, .junk, .junk, .junk, .junk, .junk, .junk, .junk, .junk, .junk, .junk, .junk, .junk, .junk, .junk, .junk, .junk, .junk, .junk, .junk, .junk, .junk, .junk, .junk, .junk, .junk, .junk, .junk, .junk, .junk, .junk, .junk, .junk], [(gs, .cells 24 [.int .i64 stamp, .str pl, .int .i64 kd, .sl 2 g1 C1 l2.length]), (gr, .cells 24 [.int .i64 0, .str ⟨#[]⟩, .int .i64 0, .nils]), (g1, .row 50 3 C1 (l2.map enc))], by omega, Weak.sel ?_ [0, 1, 4] (by decide) ⟨rfl, SubO.cells ⟨Sub.refl _, Sub.refl _, Sub.refl _, Sub.sl _ 2 _ _ _, trivial⟩, rfl, SubO.refl _, rfl, SubO.refl _, trivial⟩,
                    ⟨i + 1, l2, .sl 2 g1 C1 l2.length, .row 50 3 C1 (l2.map enc), gs, gr, g1, rfl, by omega, hg2, hfd, .inr ⟨C1, rfl, rfl⟩, rfl, rfl⟩⟩
                  repeat (first | exact trivial | refine And.intro (Sub.junk _) ?_ | refine And.intro (Sub.refl _) ?_ | refine And.intro (Sub.sl _ _ _ _ _) ?_ | refine And.intro (Sub.ptr _ _ _ _) ?_)
            · repeat (first | refine Ops.go ?_ | refine And.intro rfl ?_ | refine And.intro (Nat.le_of_ble_eq_true rfl) ?_ | refine And.intro (Int.natCast_nonneg _) ?_ | refine fun (_ : Nat) => ?_ | refine Ord.go ?_ | refine Run.go rfl ?_ | refine Cont.go rfl ?_ | refine OrdP.go ?_)
              have cf := fold_own stamp pl kd g Cp l c (by have := hg.le; omega) (good_small hg) j0 rb0 hf0
              refine ACall.sel [2] (by decide) [shot stamp pl kd (.sl 0 g Cp l.length), encC c] _ (.two (Sub.aggs ⟨Sub.refl _, Sub.refl _, Sub.refl _, Sub.sl _ 0 _ _ _, trivial⟩) (Sub.refl _)) cf ?_
              rintro r L' ⟨i2, b2, j2, rb2, hf, hf2, hsq⟩
              rw [stepP_R hg hk.1 hk.2 hp hcr hf hf2 atL_spec] at hsq
              change StepQ (stepD kd pl _ c) r L' at hsq
              cases hsd : stepD kd pl l c with
              | none =>
                rw [hsd] at hsq hfd
                obtain ⟨rfl, rfl⟩ := hsq
                refine ⟨_, Sub.refl _, ?_⟩
                repeat (first | refine Ops.go ?_ | refine And.intro rfl ?_ | refine And.intro (Nat.le_of_ble_eq_true rfl) ?_ | refine And.intro (Int.natCast_nonneg _) ?_ | refine fun (_ : Nat) => ?_ | refine Ord.go ?_ | refine Run.go rfl ?_ | refine Cont.go rfl ?_ | refine OrdP.go ?_)
                exact ⟨_, [], FinOk.drop _ _, .inr (.inr (.inl ⟨h1, hst, hfd, rfl, rfl⟩))⟩
              | some l2 =>
                rw [hsd] at hsq hfd
                obtain ⟨g1, v1, o1, hv1, rfl, rfl⟩ := hsq
                have hg2 := stepD_good hg hsd
                rcases hv1 with ⟨rfl, rfl, rfl⟩ | ⟨C1, rfl, rfl⟩
                · refine ⟨_, Sub.refl _, ?_⟩
                  repeat (first | refine Ops.go ?_ | refine And.intro rfl ?_ | refine And.intro (Nat.le_of_ble_eq_true rfl) ?_ | refine And.intro (Int.natCast_nonneg _) ?_ | refine fun (_ : Nat) => ?_ | refine Ord.go ?_ | refine Run.go rfl ?_ | refine Cont.go rfl ?_ | refine OrdP.go ?_)
                  refine fun r hr => ?_
                  obtain rfl := add1 hr (by omega)
                  repeat (first | refine Ops.go ?_ | refine And.intro rfl ?_ | refine And.intro (Nat.le_of_ble_eq_true rfl) ?_ | refine And.intro (Int.natCast_nonneg _) ?_ | refine fun (_ : Nat) => ?_ | refine Ord.go ?_ | refine Run.go rfl ?_ | refine Cont.go rfl ?_ | refine OrdP.go ?_)
                  refine Cont.lpW ?_
                  refine ⟨m - (i + 1), [.junk, .junk, .junk, .ptr 0 gs 0, .junk, .junk, .ptr 1 gr 0, .junk, .junk, .junk, .junk, .junk, .junk, .junk, .junk, .junk, .junk, .junk, .junk, .junk, .junk, .junk, .junk, .junk, .junk, .junk, .junk, .junk, .junk, .junk, .junk, .junk, .junk, .junk, rdc cs m, .int .i64 m, .int .i64 (i + 1 : Nat), .junk, .junk, .junk, .junk, .junk, .junk, .junk, .junk, .junk, .junk, .junk, .junk, .junk, .junk, .junk, .junk, .junk, .junk, .junk, .junk, .junk, .junk, .junk, .junk, .junk, .junk, .junk, .junk, .junk, .junk, .junk, .junk, .junk, .junk, .junk, .junk, .junk, .junk, .junk, .junk, .junk, .junk, .junk, .junk, .junk, .junk], [(gs, .cells 24 [.int .i64 stamp, .str pl, .int .i64 kd, .nils]), (gr, .cells 24 [.int .i64 0, .str ⟨#[]⟩, .int .i64 0, .nils]), (g1, .dead)], by omega, Weak.sel ?_ [0, 1, 2] (by decide) ⟨rfl, SubO.cells ⟨Sub.refl _, Sub.refl _, Sub.refl _, Sub.refl _, trivial⟩, rfl, SubO.refl _, rfl, SubO.refl _, trivial⟩,
                    ⟨i + 1, [], .nils, .dead, gs, gr, g1, rfl, by omega, hg2, hfd, .inl ⟨rfl, rfl, rfl⟩, rfl, rfl⟩⟩
                  repeat (first | exact trivial | refine And.intro (Sub.junk _) ?_ | refine And.intro (Sub.refl _) ?_ | refine And.intro (Sub.sl _ _ _ _ _) ?_ | refine And.intro (Sub.ptr _ _ _ _) ?_)
                · refine ⟨.tuple [.sl 2 g1 C1 l2.length, .bool true], Sub.tuples ⟨Sub.sl _ 2 _ _ _, Sub.refl _, trivial⟩, ?_⟩
                  repeat (first | refine Ops.go ?_ | refine And.intro rfl ?_ | refine And.intro (Nat.le_of_ble_eq_true rfl) ?_ | refine And.intro (Int.natCast_nonneg _) ?_ | refine fun (_ : Nat) => ?_ | refine Ord.go ?_ | refine Run.go rfl ?_ | refine Cont.go rfl ?_ | refine OrdP.go ?_)
                  refine fun r hr => ?_
                  obtain rfl := add1 hr (by omega)
                  repeat (first | refine Ops.go ?_ | refine And.intro rfl ?_ | refine And.intro (Nat.le_of_ble_eq_true rfl) ?_ | refine And.intro (Int.natCast_nonneg _) ?_ | refine fun (_ : Nat) => ?_ | refine Ord.go ?_ | refine Run.go rfl ?_ | refine Cont.go rfl ?_ | refine OrdP.go ?_)
                  refine Cont.lpW ?_
                  refine ⟨m - (i + 1), [.junk, .junk, .junk, .ptr 0 gs 0, .junk, .junk, .ptr 1 gr 0, .junk, .junk, .junk, .junk, .junk, .junk, .junk, .junk, .junk, .junk, .junk, .junk, .junk, .junk, .junk, .junk, .junk, .junk, .junk, .junk, .junk, .junk, .junk, .junk, .junk, .junk, .junk, rdc cs m, .int .i64 m, .int .i64 (i + 1 : Nat), .junk, .junk, .junk, .junk, .junk, .junk, .junk, .junk, .junk, .junk, .junk, .junk, .junk, .junk, .junk, .junk, .junk, .junk, .junk, .junk, .junk, .junk, .junk, .junk, .junk, .junk, .junk, .junk, .junk, .junk, .junk, .junk, .junk, .junk, .junk, .junk, .junk, .junk, .junk, .junk, .junk, .junk, .junk, .junk, .junk, .junk], [(gs, .cells 24 [.int .i64 stamp, .str pl, .int .i64 kd, .sl 2 g1 C1 l2.length]), (gr, .cells 24 [.int .i64 0, .str ⟨#[]⟩, .int .i64 0, .nils]), (g1, .row 50 3 C1 (l2.map enc))], by omega, Weak.sel ?_ [0, 1, 2] (by decide) ⟨rfl, SubO.cells ⟨Sub.refl _, Sub.refl _, Sub.refl _, Sub.sl _ 2 _ _ _, trivial⟩, rfl, SubO.refl _, rfl, SubO.refl _, trivial⟩,
                    ⟨i + 1, l2, .sl 2 g1 C1 l2.length, .row 50 3 C1 (l2.map enc), gs, gr, g1, rfl, by omega, hg2, hfd, .inr ⟨C1, rfl, rfl⟩, rfl, rfl⟩⟩
                  repeat (first | exact trivial | refine And.intro (Sub.junk _) ?_ | refine And.intro (Sub.refl _) ?_ | refine And.intro (Sub.sl _ _ _ _ _) ?_ | refine And.intro (Sub.ptr _ _ _ _) ?_)
        · have k2 : ¬ c.k ≠ 2 := h
          have hk : 1 ≤ c.k ∧ c.k ≤ 3 := by omega
          have hgd : ¬ (c.k < 1 ∨ 3 < c.k) := by omega
          repeat (first | refine Ops.go ?_ | refine And.intro rfl ?_ | refine And.intro (Nat.le_of_ble_eq_true rfl) ?_ | refine And.intro (Int.natCast_nonneg _) ?_ | refine fun (_ : Nat) => ?_ | refine Ord.go ?_ | refine Run.go rfl ?_ | refine Cont.go rfl ?_ | refine OrdP.go ?_)
          by_cases hp : parseE c.p = 0
          case neg =>
            have ci := isPlace_spec c.p
            rw [decide_eq_false hp] at ci
            refine ACall.ret ci ?_
            repeat (first | refine Ops.go ?_ | refine And.intro rfl ?_ | refine And.intro (Nat.le_of_ble_eq_true rfl) ?_ | refine And.intro (Int.natCast_nonneg _) ?_ | refine fun (_ : Nat) => ?_ | refine Ord.go ?_ | refine Run.go rfl ?_ | refine Cont.go rfl ?_ | refine OrdP.go ?_)
            exact ⟨_, [], FinOk.drop _ _, .inr (.inr (.inl ⟨h1, hst, badD (.inr (.inr hp)), rfl, rfl⟩))⟩
          have ci := isPlace_spec c.p
          rw [decide_eq_true hp] at ci
          refine ACall.ret ci ?_
          repeat (first | refine Ops.go ?_ | refine And.intro rfl ?_ | refine And.intro (Nat.le_of_ble_eq_true rfl) ?_ | refine And.intro (Int.natCast_nonneg _) ?_ | refine fun (_ : Nat) => ?_ | refine Ord.go ?_ | refine Run.go rfl ?_ | refine Cont.go rfl ?_ | refine OrdP.go ?_)
          by_cases hcov : coversP kd pl c.k c.p
          case neg =>
            have cc := covers_spec kd pl c.k c.p
            rw [decide_eq_false hcov] at cc
            refine ACall.ret cc ?_
            have hsd : stepD kd pl l c = some l := by
              unfold stepD stepR
              rw [if_neg (show ¬ (c.k < 1 ∨ 3 < c.k ∨ parseE c.p ≠ 0) by rintro (h | h | h); omega; omega; exact h hp), if_pos (fun h => hcov ((covers_ref _ _ _ _).2 h))]
            rw [hsd] at hfd
            repeat (first | refine Ops.go ?_ | refine And.intro rfl ?_ | refine And.intro (Nat.le_of_ble_eq_true rfl) ?_ | refine And.intro (Int.natCast_nonneg _) ?_ | refine fun (_ : Nat) => ?_ | refine Ord.go ?_ | refine Run.go rfl ?_ | refine Cont.go rfl ?_ | refine OrdP.go ?_)
            refine fun r hr => ?_
            obtain rfl := add1 hr (by omega)
            repeat (first | refine Ops.go ?_ | refine And.intro rfl ?_ | refine And.intro (Nat.le_of_ble_eq_true rfl) ?_ | refine And.intro (Int.natCast_nonneg _) ?_ | refine fun (_ : Nat) => ?_ | refine Ord.go ?_ | refine Run.go rfl ?_ | refine Cont.go rfl ?_ | refine OrdP.go ?_)
            refine Cont.lpW ?_
            refine ⟨m - (i + 1), [.junk, .junk, .junk, .ptr 0 gs 0, .junk, .junk, .ptr 1 gr 0, .junk, .junk, .junk, .junk, .junk, .junk, .junk, .junk, .junk, .junk, .junk, .junk, .junk, .junk, .junk, .junk, .junk, .junk, .junk, .junk, .junk, .junk, .junk, .junk, .junk, .junk, .junk, rdc cs m, .int .i64 m, .int .i64 (i + 1 : Nat), .junk, .junk, .junk, .junk, .junk, .junk, .junk, .junk, .junk, .junk, .junk, .junk, .junk, .junk, .junk, .junk, .junk, .junk, .junk, .junk, .junk, .junk, .junk, .junk, .junk, .junk, .junk, .junk, .junk, .junk, .junk, .junk, .junk, .junk, .junk, .junk, .junk, .junk, .junk, .junk, .junk, .junk, .junk, .junk, .junk, .junk], [(gs, .cells 24 [.int .i64 stamp, .str pl, .int .i64 kd, v]), (gr, .cells 24 [.int .i64 0, .str ⟨#[]⟩, .int .i64 0, .nils]), (g, o)], by omega, Weak.sel ?_ [0, 1, 2] (by decide) ⟨rfl, SubO.cells ⟨Sub.refl _, Sub.refl _, Sub.refl _, Sub.refl _, trivial⟩, rfl, SubO.refl _, rfl, SubO.refl _, trivial⟩,
              ⟨i + 1, l, v, o, gs, gr, g, rfl, by omega, hg, hfd, hv, rfl, rfl⟩⟩
            repeat (first | exact trivial | refine And.intro (Sub.junk _) ?_ | refine And.intro (Sub.refl _) ?_ | refine And.intro (Sub.sl _ _ _ _ _) ?_ | refine And.intro (Sub.ptr _ _ _ _) ?_)
          have hcr := (covers_ref _ _ _ _).1 hcov
          have cc := covers_spec kd pl c.k c.p
          rw [decide_eq_true hcov] at cc
          refine ACall.ret cc ?_
          obtain ⟨j0, rb0, hf0⟩ := found_ex l (parentB c.p)
          rcases hv with ⟨rfl, rfl, rfl⟩ | ⟨Cp, rfl, rfl⟩
          · repeat (first | refine Ops.go ?_ | refine And.intro rfl ?_ | refine And.intro (Nat.le_of_ble_eq_true rfl) ?_ | refine And.intro (Int.natCast_nonneg _) ?_ | refine fun (_ : Nat) => ?_ | refine Ord.go ?_ | refine Run.go rfl ?_ | refine Cont.go rfl ?_ | refine OrdP.go ?_)
            have cf := fold_nil stamp pl kd c j0 rb0 hf0
            refine ACall.pure _ cf ?_
            rintro r L' ⟨i2, b2, j2, rb2, hf, hf2, hsq⟩
            rw [stepP_R hg hk.1 hk.2 hp hcr hf hf2 atL_spec] at hsq
            change StepQ (stepD kd pl _ c) r L' at hsq
            cases hsd : stepD kd pl [] c with
            | none =>
              rw [hsd] at hsq hfd
              obtain ⟨rfl, rfl⟩ := hsq
              refine ⟨_, Sub.refl _, ?_⟩
              repeat (first | refine Ops.go ?_ | refine And.intro rfl ?_ | refine And.intro (Nat.le_of_ble_eq_true rfl) ?_ | refine And.intro (Int.natCast_nonneg _) ?_ | refine fun (_ : Nat) => ?_ | refine Ord.go ?_ | refine Run.go rfl ?_ | refine Cont.go rfl ?_ | refine OrdP.go ?_)
              exact ⟨_, [], FinOk.drop _ _, .inr (.inr (.inl ⟨h1, hst, hfd, rfl, rfl⟩))⟩
            | some l2 =>
              rw [hsd] at hsq hfd
              obtain ⟨g1, v1, o1, hv1, rfl, rfl⟩ := hsq
              have hg2 := stepD_good hg hsd
              rcases hv1 with ⟨rfl, rfl, rfl⟩ | ⟨C1, rfl, rfl⟩
              · refine ⟨_, Sub.refl _, ?_⟩
                repeat (first | refine Ops.go ?_ | refine And.intro rfl ?_ | refine And.intro (Nat.le_of_ble_eq_true rfl) ?_ | refine And.intro (Int.natCast_nonneg _) ?_ | refine fun (_ : Nat) => ?_ | refine Ord.go ?_ | refine Run.go rfl ?_ | refine Cont.go rfl ?_ | refine OrdP.go ?_)
                refine fun r hr => ?_
                obtain rfl := add1 hr (by omega)
                repeat (first | refine Ops.go ?_ | refine And.intro rfl ?_ | refine And.intro (Nat.le_of_ble_eq_true rfl) ?_ | refine And.intro (Int.natCast_nonneg _) ?_ | refine fun (_ : Nat) => ?_ | refine Ord.go ?_ | refine Run.go rfl ?_ | refine Cont.go rfl ?_ | refine OrdP.go ?_)
                refine Cont.lpW ?_
                refine ⟨m - (i + 1), [.junk, .junk, .junk, .ptr 0 gs 0, .junk, .junk, .ptr 1 gr 0, .junk, .junk, .junk, .junk, .junk, .junk, .junk, .junk, .junk, .junk, .junk, .junk, .junk, .junk, .junk, .junk, .junk, .junk, .junk, .junk, .junk, .junk, .junk, .junk, .junk, .junk, .junk, rdc cs m, .int .i64 m, .int .i64 (i + 1 : Nat), .junk, .junk, .junk, .junk, .junk, .junk, .junk, .junk, .junk, .junk, .junk, .junk, .junk, .junk, .junk, .junk, .junk, .junk, .junk, .junk, .junk, .junk, .junk, .junk, .junk, .junk, .junk, .junk, .junk, .junk, .junk, .junk, .junk, .junk, .junk, .junk, .junk, .junk, .junk, .junk, .junk, .junk, .junk, .junk, .junk, .junk], [(gs, .cells 24 [.int .i64 stamp, .str pl, .int .i64 kd, .nils]), (gr, .cells 24 [.int .i64 0, .str ⟨#[]⟩, .int .i64 0, .nils]), (g1, .dead)], by omega, Weak.sel ?_ [0, 1, 4] (by decide) ⟨rfl, SubO.cells ⟨Sub.refl _, Sub.refl _, Sub.refl _, Sub.refl _, trivial⟩, rfl, SubO.refl _, rfl, SubO.refl _, trivial⟩,
                  ⟨i + 1, [], .nils, .dead, gs, gr, g1, rfl, by omega, hg2, hfd, .inl ⟨rfl, rfl, rfl⟩, rfl, rfl⟩⟩
                repeat (first | exact trivial | refine And.intro (Sub.junk _) ?_ | refine And.intro (Sub.refl _) ?_ | refine And.intro (Sub.sl _ _ _ _ _) ?_ | refine And.intro (Sub.ptr _ _ _ _) ?_)
              · refine ⟨.tuple [.sl 4 g1 C1 l2.length, .bool true], Sub.tuples ⟨Sub.sl _ 4 _ _ _, Sub.refl _, trivial⟩, ?_⟩
                repeat (first | refine Ops.go ?_ | refine And.intro rfl ?_ | refine And.intro (Nat.le_of_ble_eq_true rfl) ?_ | refine And.intro (Int.natCast_nonneg _) ?_ | refine fun (_ : Nat) => ?_ | refine Ord.go ?_ | refine Run.go rfl ?_ | refine Cont.go rfl ?_ | refine OrdP.go ?_)
                refine fun r hr => ?_
                obtain rfl := add1 hr (by omega)
                repeat (first | refine Ops.go ?_ | refine And.intro rfl ?_ | refine And.intro (Nat.le_of_ble_eq_true rfl) ?_ | refine And.intro (Int.natCast_nonneg _) ?_ | refine fun (_ : Nat) => ?_ | refine Ord.go ?_ | refine Run.go rfl ?_ | refine Cont.go rfl ?_ | refine OrdP.go ?_)
                refine Cont.lpW ?_
                refine ⟨m - (i + 1), [.junk, .junk, .junk, .ptr 0 gs 0, .junk, .junk, .ptr 1 gr 0, .junk, .junk, .junk, .junk, .junk, .junk, .junk, .junk, .junk, .junk, .junk, .junk, .junk, .junk, .junk, .junk, .junk, .junk, .junk, .junk, .junk, .junk, .junk, .junk, .junk, .junk, .junk, rdc cs m, .int .i64 m, .int .i64 (i + 1 : Nat), .junk, .junk, .junk, .junk, .junk, .junk, .junk, .junk, .junk, .junk, .junk, .junk, .junk, .junk, .junk, .junk, .junk, .junk, .junk, .junk, .junk, .junk, .junk, .junk, .junk, .junk, .junk, .junk, .junk, .junk, .junk, .junk, .junk, .junk, .junk, .junk, .junk, .junk, .junk, .junk, .junk, .junk, .junk, .junk, .junk, .junk], [(gs, .cells 24 [.int .i64 stamp, .str pl, .int .i64 kd, .sl 2 g1 C1 l2.length]), (gr, .cells 24 [.int .i64 0, .str ⟨#[]⟩, .int .i64 0, .nils]), (g1, .row 50 3 C1 (l2.map enc))], by omega, Weak.sel ?_ [0, 1, 4] (by decide) ⟨rfl, SubO.cells ⟨Sub.refl _, Sub.refl _, Sub.refl _, Sub.sl _ 2 _ _ _, trivial⟩, rfl, SubO.refl _, rfl, SubO.refl _, trivial⟩,
                  ⟨i + 1, l2, .sl 2 g1 C1 l2.length, .row 50 3 C1 (l2.map enc), gs, gr, g1, rfl, by omega, hg2, hfd, .inr ⟨C1, rfl, rfl⟩, rfl, rfl⟩⟩
                repeat (first | exact trivial | refine And.intro (Sub.junk _) ?_ | refine And.intro (Sub.refl _) ?_ | refine And.intro (Sub.sl _ _ _ _ _) ?_ | refine And.intro (Sub.ptr _ _ _ _) ?_)
          · repeat (first | refine Ops.go ?_ | refine And.intro rfl ?_ | refine And.intro (Nat.le_of_ble_eq_true rfl) ?_ | refine And.intro (Int.natCast_nonneg _) ?_ | refine fun (_ : Nat) => ?_ | refine Ord.go ?_ | refine Run.go rfl ?_ | refine Cont.go rfl ?_ | refine OrdP.go ?_)
            have cf := fold_own stamp pl kd g Cp l c (by have := hg.le; omega) (good_small hg) j0 rb0 hf0
            refine ACall.sel [2] (by decide) [shot stamp pl kd (.sl 0 g Cp l.length), encC c] _ (.two (Sub.aggs ⟨Sub.refl _, Sub.refl _, Sub.refl _, Sub.sl _ 0 _ _ _, trivial⟩) (Sub.refl _)) cf ?_
            rintro r L' ⟨i2, b2, j2, rb2, hf, hf2, hsq⟩
            rw [stepP_R hg hk.1 hk.2 hp hcr hf hf2 atL_spec] at hsq
            change StepQ (stepD kd pl _ c) r L' at hsq
            cases hsd : stepD kd pl l c with
            | none =>
              rw [hsd] at hsq hfd
              obtain ⟨rfl, rfl⟩ := hsq
              refine ⟨_, Sub.refl _, ?_⟩
              repeat (first | refine Ops.go ?_ | refine And.intro rfl ?_ | refine And.intro (Nat.le_of_ble_eq_true rfl) ?_ | refine And.intro (Int.natCast_nonneg _) ?_ | refine fun (_ : Nat) => ?_ | refine Ord.go ?_ | refine Run.go rfl ?_ | refine Cont.go rfl ?_ | refine OrdP.go ?_)
              exact ⟨_, [], FinOk.drop _ _, .inr (.inr (.inl ⟨h1, hst, hfd, rfl, rfl⟩))⟩
            | some l2 =>
              rw [hsd] at hsq hfd
              obtain ⟨g1, v1, o1, hv1, rfl, rfl⟩ := hsq
              have hg2 := stepD_good hg hsd
              rcases hv1 with ⟨rfl, rfl, rfl⟩ | ⟨C1, rfl, rfl⟩
              · refine ⟨_, Sub.refl _, ?_⟩
                repeat (first | refine Ops.go ?_ | refine And.intro rfl ?_ | refine And.intro (Nat.le_of_ble_eq_true rfl) ?_ | refine And.intro (Int.natCast_nonneg _) ?_ | refine fun (_ : Nat) => ?_ | refine Ord.go ?_ | refine Run.go rfl ?_ | refine Cont.go rfl ?_ | refine OrdP.go ?_)
                refine fun r hr => ?_
                obtain rfl := add1 hr (by omega)
                repeat (first | refine Ops.go ?_ | refine And.intro rfl ?_ | refine And.intro (Nat.le_of_ble_eq_true rfl) ?_ | refine And.intro (Int.natCast_nonneg _) ?_ | refine fun (_ : Nat) => ?_ | refine Ord.go ?_ | refine Run.go rfl ?_ | refine Cont.go rfl ?_ | refine OrdP.go ?_)
                refine Cont.lpW ?_
                refine ⟨m - (i + 1), [.junk, .junk, .junk, .ptr 0 gs 0, .junk, .junk, .ptr 1 gr 0, .junk, .junk, .junk, .junk, .junk, .junk, .junk, .junk, .junk, .junk, .junk, .junk, .junk, .junk, .junk, .junk, .junk, .junk, .junk, .junk, .junk, .junk, .junk, .junk, .junk, .junk, .junk, rdc cs m, .int .i64 m, .int .i64 (i + 1 : Nat), .junk, .junk, .junk, .junk, .junk, .junk, .junk, .junk, .junk, .junk, .junk, .junk, .junk, .junk, .junk, .junk, .junk, .junk, .junk, .junk, .junk, .junk, .junk, .junk, .junk, .junk, .junk, .junk, .junk, .junk, .junk, .junk, .junk, .junk, .junk, .junk, .junk, .junk, .junk, .junk, .junk, .junk, .junk, .junk, .junk, .junk], [(gs, .cells 24 [.int .i64 stamp, .str pl, .int .i64 kd, .nils]), (gr, .cells 24 [.int .i64 0, .str ⟨#[]⟩, .int .i64 0, .nils]), (g1, .dead)], by omega, Weak.sel ?_ [0, 1, 2] (by decide) ⟨rfl, SubO.cells ⟨Sub.refl _, Sub.refl _, Sub.refl _, Sub.refl _, trivial⟩, rfl, SubO.refl _, rfl, SubO.refl _, trivial⟩,
                  ⟨i + 1, [], .nils, .dead, gs, gr, g1, rfl, by omega, hg2, hfd, .inl ⟨rfl, rfl, rfl⟩, rfl, rfl⟩⟩
                repeat (first | exact trivial | refine And.intro (Sub.junk _) ?_ | refine And.intro (Sub.refl _) ?_ | refine And.intro (Sub.sl _ _ _ _ _) ?_ | refine And.intro (Sub.ptr _ _ _ _) ?_)
              · refine ⟨.tuple [.sl 2 g1 C1 l2.length, .bool true], Sub.tuples ⟨Sub.sl _ 2 _ _ _, Sub.refl _, trivial⟩, ?_⟩
                repeat (first | refine Ops.go ?_ | refine And.intro rfl ?_ | refine And.intro (Nat.le_of_ble_eq_true rfl) ?_ | refine And.intro (Int.natCast_nonneg _) ?_ | refine fun (_ : Nat) => ?_ | refine Ord.go ?_ | refine Run.go rfl ?_ | refine Cont.go rfl ?_ | refine OrdP.go ?_)
                refine fun r hr => ?_
                obtain rfl := add1 hr (by omega)
                repeat (first | refine Ops.go ?_ | refine And.intro rfl ?_ | refine And.intro (Nat.le_of_ble_eq_true rfl) ?_ | refine And.intro (Int.natCast_nonneg _) ?_ | refine fun (_ : Nat) => ?_ | refine Ord.go ?_ | refine Run.go rfl ?_ | refine Cont.go rfl ?_ | refine OrdP.go ?_)
                refine Cont.lpW ?_
                refine ⟨m - (i + 1), [.junk, .junk, .junk, .ptr 0 gs 0, .junk, .junk, .ptr 1 gr 0, .junk, .junk, .junk, .junk, .junk, .junk, .junk, .junk, .junk, .junk, .junk, .junk, .junk, .junk, .junk, .junk, .junk, .junk, .junk, .junk, .junk, .junk, .junk, .junk, .junk, .junk, .junk, rdc cs m, .int .i64 m, .int .i64 (i + 1 : Nat), .junk, .junk, .junk, .junk, .junk, .junk, .junk, .junk, .junk, .junk, .junk, .junk, .junk, .junk, .junk, .junk, .junk, .junk, .junk, .junk, .junk, .junk, .junk, .junk, .junk, .junk, .junk, .junk, .junk, .junk, .junk, .junk, .junk, .junk, .junk, .junk, .junk, .junk, .junk, .junk, .junk, .junk, .junk, .junk, .junk, .junk], [(gs, .cells 24 [.int .i64 stamp, .str pl, .int .i64 kd, .sl 2 g1 C1 l2.length]), (gr, .cells 24 [.int .i64 0, .str ⟨#[]⟩, .int .i64 0, .nils]), (g1, .row 50 3 C1 (l2.map enc))], by omega, Weak.sel ?_ [0, 1, 2] (by decide) ⟨rfl, SubO.cells ⟨Sub.refl _, Sub.refl _, Sub.refl _, Sub.sl _ 2 _ _ _, trivial⟩, rfl, SubO.refl _, rfl, SubO.refl _, trivial⟩,
                  ⟨i + 1, l2, .sl 2 g1 C1 l2.length, .row 50 3 C1 (l2.map enc), gs, gr, g1, rfl, by omega, hg2, hfd, .inr ⟨C1, rfl, rfl⟩, rfl, rfl⟩⟩
                repeat (first | exact trivial | refine And.intro (Sub.junk _) ?_ | refine And.intro (Sub.refl _) ?_ | refine And.intro (Sub.sl _ _ _ _ _) ?_ | refine And.intro (Sub.ptr _ _ _ _) ?_)
      · have k1 : ¬ c.k ≠ 1 := h
        have hk : 1 ≤ c.k ∧ c.k ≤ 3 := by omega
        have hgd : ¬ (c.k < 1 ∨ 3 < c.k) := by omega
        repeat (first | refine Ops.go ?_ | refine And.intro rfl ?_ | refine And.intro (Nat.le_of_ble_eq_true rfl) ?_ | refine And.intro (Int.natCast_nonneg _) ?_ | refine fun (_ : Nat) => ?_ | refine Ord.go ?_ | refine Run.go rfl ?_ | refine Cont.go rfl ?_ | refine OrdP.go ?_)
        by_cases hp : parseE c.p = 0
        case neg =>
          have ci := isPlace_spec c.p
          rw [decide_eq_false hp] at ci
          refine ACall.ret ci ?_
          repeat (first | refine Ops.go ?_ | refine And.intro rfl ?_ | refine And.intro (Nat.le_of_ble_eq_true rfl) ?_ | refine And.intro (Int.natCast_nonneg _) ?_ | refine fun (_ : Nat) => ?_ | refine Ord.go ?_ | refine Run.go rfl ?_ | refine Cont.go rfl ?_ | refine OrdP.go ?_)
          exact ⟨_, [], FinOk.drop _ _, .inr (.inr (.inl ⟨h1, hst, badD (.inr (.inr hp)), rfl, rfl⟩))⟩
        have ci := isPlace_spec c.p
        rw [decide_eq_true hp] at ci
        refine ACall.ret ci ?_
        repeat (first | refine Ops.go ?_ | refine And.intro rfl ?_ | refine And.intro (Nat.le_of_ble_eq_true rfl) ?_ | refine And.intro (Int.natCast_nonneg _) ?_ | refine fun (_ : Nat) => ?_ | refine Ord.go ?_ | refine Run.go rfl ?_ | refine Cont.go rfl ?_ | refine OrdP.go ?_)
        by_cases hcov : coversP kd pl c.k c.p
        case neg =>
          have cc := covers_spec kd pl c.k c.p
          rw [decide_eq_false hcov] at cc
          refine ACall.ret cc ?_
          have hsd : stepD kd pl l c = some l := by
            unfold stepD stepR
            rw [if_neg (show ¬ (c.k < 1 ∨ 3 < c.k ∨ parseE c.p ≠ 0) by rintro (h | h | h); omega; omega; exact h hp), if_pos (fun h => hcov ((covers_ref _ _ _ _).2 h))]
          rw [hsd] at hfd
          repeat (first | refine Ops.go ?_ | refine And.intro rfl ?_ | refine And.intro (Nat.le_of_ble_eq_true rfl) ?_ | refine And.intro (Int.natCast_nonneg _) ?_ | refine fun (_ : Nat) => ?_ | refine Ord.go ?_ | refine Run.go rfl ?_ | refine Cont.go rfl ?_ | refine OrdP.go ?_)
          refine fun r hr => ?_
          obtain rfl := add1 hr (by omega)
          repeat (first | refine Ops.go ?_ | refine And.intro rfl ?_ | refine And.intro (Nat.le_of_ble_eq_true rfl) ?_ | refine And.intro (Int.natCast_nonneg _) ?_ | refine fun (_ : Nat) => ?_ | refine Ord.go ?_ | refine Run.go rfl ?_ | refine Cont.go rfl ?_ | refine OrdP.go ?_)
          refine Cont.lpW ?_
          refine ⟨m - (i + 1), [.junk, .junk, .junk, .ptr 0 gs 0, .junk, .junk, .ptr 1 gr 0, .junk, .junk, .junk, .junk, .junk, .junk, .junk, .junk, .junk, .junk, .junk, .junk, .junk, .junk, .junk, .junk, .junk, .junk, .junk, .junk, .junk, .junk, .junk, .junk, .junk, .junk, .junk, rdc cs m, .int .i64 m, .int .i64 (i + 1 : Nat), .junk, .junk, .junk, .junk, .junk, .junk, .junk, .junk, .junk, .junk, .junk, .junk, .junk, .junk, .junk, .junk, .junk, .junk, .junk, .junk, .junk, .junk, .junk, .junk, .junk, .junk, .junk, .junk, .junk, .junk, .junk, .junk, .junk, .junk, .junk, .junk, .junk, .junk, .junk, .junk, .junk, .junk, .junk, .junk, .junk, .junk], [(gs, .cells 24 [.int .i64 stamp, .str pl, .int .i64 kd, v]), (gr, .cells 24 [.int .i64 0, .str ⟨#[]⟩, .int .i64 0, .nils]), (g, o)], by omega, Weak.sel ?_ [0, 1, 2] (by decide) ⟨rfl, SubO.cells ⟨Sub.refl _, Sub.refl _, Sub.refl _, Sub.refl _, trivial⟩, rfl, SubO.refl _, rfl, SubO.refl _, trivial⟩,
            ⟨i + 1, l, v, o, gs, gr, g, rfl, by omega, hg, hfd, hv, rfl, rfl⟩⟩
          repeat (first | exact trivial | refine And.intro (Sub.junk _) ?_ | refine And.intro (Sub.refl _) ?_ | refine And.intro (Sub.sl _ _ _ _ _) ?_ | refine And.intro (Sub.ptr _ _ _ _) ?_)
        have hcr := (covers_ref _ _ _ _).1 hcov
        have cc := covers_spec kd pl c.k c.p
        rw [decide_eq_true hcov] at cc
        refine ACall.ret cc ?_
        obtain ⟨j0, rb0, hf0⟩ := found_ex l (parentB c.p)
        rcases hv with ⟨rfl, rfl, rfl⟩ | ⟨Cp, rfl, rfl⟩
        · repeat (first | refine Ops.go ?_ | refine And.intro rfl ?_ | refine And.intro (Nat.le_of_ble_eq_true rfl) ?_ | refine And.intro (Int.natCast_nonneg _) ?_ | refine fun (_ : Nat) => ?_ | refine Ord.go ?_ | refine Run.go rfl ?_ | refine Cont.go rfl ?_ | refine OrdP.go ?_)
          have cf := fold_nil stamp pl kd c j0 rb0 hf0
          refine ACall.pure _ cf ?_
          rintro r L' ⟨i2, b2, j2, rb2, hf, hf2, hsq⟩
          rw [stepP_R hg hk.1 hk.2 hp hcr hf hf2 atL_spec] at hsq
          change StepQ (stepD kd pl _ c) r L' at hsq
          cases hsd : stepD kd pl [] c with
          | none =>
            rw [hsd] at hsq hfd
            obtain ⟨rfl, rfl⟩ := hsq
            refine ⟨_, Sub.refl _, ?_⟩
            repeat (first | refine Ops.go ?_ | refine And.intro rfl ?_ | refine And.intro (Nat.le_of_ble_eq_true rfl) ?_ | refine And.intro (Int.natCast_nonneg _) ?_ | refine fun (_ : Nat) => ?_ | refine Ord.go ?_ | refine Run.go rfl ?_ | refine Cont.go rfl ?_ | refine OrdP.go ?_)
            exact ⟨_, [], FinOk.drop _ _, .inr (.inr (.inl ⟨h1, hst, hfd, rfl, rfl⟩))⟩
          | some l2 =>
            rw [hsd] at hsq hfd
            obtain ⟨g1, v1, o1, hv1, rfl, rfl⟩ := hsq
            have hg2 := stepD_good hg hsd
            rcases hv1 with ⟨rfl, rfl, rfl⟩ | ⟨C1, rfl, rfl⟩
            · refine ⟨_, Sub.refl _, ?_⟩
              repeat (first | refine Ops.go ?_ | refine And.intro rfl ?_ | refine And.intro (Nat.le_of_ble_eq_true rfl) ?_ | refine And.intro (Int.natCast_nonneg _) ?_ | refine fun (_ : Nat) => ?_ | refine Ord.go ?_ | refine Run.go rfl ?_ | refine Cont.go rfl ?_ | refine OrdP.go ?_)
              refine fun r hr => ?_
              obtain rfl := add1 hr (by omega)
              repeat (first | refine Ops.go ?_ | refine And.intro rfl ?_ | refine And.intro (Nat.le_of_ble_eq_true rfl) ?_ | refine And.intro (Int.natCast_nonneg _) ?_ | refine fun (_ : Nat) => ?_ | refine Ord.go ?_ | refine Run.go rfl ?_ | refine Cont.go rfl ?_ | refine OrdP.go ?_)
              refine Cont.lpW ?_
              refine ⟨m - (i + 1), [.junk, .junk, .junk, .ptr 0 gs 0, .junk, .junk, .ptr 1 gr 0, .junk, .junk, .junk, .junk, .junk, .junk, .junk, .junk, .junk, .junk, .junk, .junk, .junk, .junk, .junk, .junk, .junk, .junk, .junk, .junk, .junk, .junk, .junk, .junk, .junk, .junk, .junk, rdc cs m, .int .i64 m, .int .i64 (i + 1 : Nat), .junk, .junk, .junk, .junk, .junk, .junk, .junk, .junk, .junk, .junk, .junk, .junk, .junk, .junk, .junk, .junk, .junk, .junk, .junk, .junk, .junk, .junk, .junk, .junk, .junk, .junk, .junk, .junk, .junk, .junk, .junk, .junk, .junk, .junk, .junk, .junk, .junk, .junk, .junk, .junk, .junk, .junk, .junk, .junk, .junk, .junk], [(gs, .cells 24 [.int .i64 stamp, .str pl, .int .i64 kd, .nils]), (gr, .cells 24 [.int .i64 0, .str ⟨#[]⟩, .int .i64 0, .nils]), (g1, .dead)], by omega, Weak.sel ?_ [0, 1, 4] (by decide) ⟨rfl, SubO.cells ⟨Sub.refl _, Sub.refl _, Sub.refl _, Sub.refl _, trivial⟩, rfl, SubO.refl _, rfl, SubO.refl _, trivial⟩,
                ⟨i + 1, [], .nils, .dead, gs, gr, g1, rfl, by omega, hg2, hfd, .inl ⟨rfl, rfl, rfl⟩, rfl, rfl⟩⟩
              repeat (first | exact trivial | refine And.intro (Sub.junk _) ?_ | refine And.intro (Sub.refl _) ?_ | refine And.intro (Sub.sl _ _ _ _ _) ?_ | refine And.intro (Sub.ptr _ _ _ _) ?_)
            · refine ⟨.tuple [.sl 4 g1 C1 l2.length, .bool true], Sub.tuples ⟨Sub.sl _ 4 _ _ _, Sub.refl _, trivial⟩, ?_⟩
              repeat (first | refine Ops.go ?_ | refine And.intro rfl ?_ | refine And.intro (Nat.le_of_ble_eq_true rfl) ?_ | refine And.intro (Int.natCast_nonneg _) ?_ | refine fun (_ : Nat) => ?_ | refine Ord.go ?_ | refine Run.go rfl ?_ | refine Cont.go rfl ?_ | refine OrdP.go ?_)
              refine fun r hr => ?_
              obtain rfl := add1 hr (by omega)
              repeat (first | refine Ops.go ?_ | refine And.intro rfl ?_ | refine And.intro (Nat.le_of_ble_eq_true rfl) ?_ | refine And.intro (Int.natCast_nonneg _) ?_ | refine fun (_ : Nat) => ?_ | refine Ord.go ?_ | refine Run.go rfl ?_ | refine Cont.go rfl ?_ | refine OrdP.go ?_)
              refine Cont.lpW ?_
              refine ⟨m - (i + 1), [.junk, .junk, .junk, .ptr 0 gs 0, .junk, .junk, .ptr 1 gr 0, .junk, .junk, .junk, .junk, .junk, .junk, .junk, .junk, .junk, .junk, .junk, .junk, .junk, .junk, .junk, .junk, .junk, .junk, .junk, .junk, .junk, .junk, .junk, .junk, .junk, .junk, .junk, rdc cs m, .int .i64 m, .int .i64 (i + 1 : Nat), .junk, .junk, .junk, .junk, .junk, .junk, .junk, .junk, .junk, .junk, .junk, .junk, .junk, .junk, .junk, .junk, .junk, .junk, .junk, .junk, .junk, .junk, .junk, .junk, .junk, .junk, .junk, .junk, .junk, .junk, .junk, .junk, .junk, .junk, .junk, .junk, .junk, .junk, .junk, .junk, .junk, .junk, .junk, .junk, .junk, .junk], [(gs, .cells 24 [.int .i64 stamp, .str pl, .int .i64 kd, .sl 2 g1 C1 l2.length]), (gr, .cells 24 [.int .i64 0, .str ⟨#[]⟩, .int .i64 0, .nils]), (g1, .row 50 3 C1 (l2.map enc))], by omega, Weak.sel ?_ [0, 1, 4] (by decide) ⟨rfl, SubO.cells ⟨Sub.refl _, Sub.refl _, Sub.refl _, Sub.sl _ 2 _ _ _, trivial⟩, rfl, SubO.refl _, rfl, SubO.refl _, trivial⟩,
                ⟨i + 1, l2, .sl 2 g1 C1 l2.length, .row 50 3 C1 (l2.map enc), gs, gr, g1, rfl, by omega, hg2, hfd, .inr ⟨C1, rfl, rfl⟩, rfl, rfl⟩⟩
              repeat (first | exact trivial | refine And.intro (Sub.junk _) ?_ | refine And.intro (Sub.refl _) ?_ | refine And.intro (Sub.sl _ _ _ _ _) ?_ | refine And.intro (Sub.ptr _ _ _ _) ?_)
        · repeat (first | refine Ops.go ?_ | refine And.intro rfl ?_ | refine And.intro (Nat.le_of_ble_eq_true rfl) ?_ | refine And.intro (Int.natCast_nonneg _) ?_ | refine fun (_ : Nat) => ?_ | refine Ord.go ?_ | refine Run.go rfl ?_ | refine Cont.go rfl ?_ | refine OrdP.go ?_)
          have cf := fold_own stamp pl kd g Cp l c (by have := hg.le; omega) (good_small hg) j0 rb0 hf0
          refine ACall.sel [2] (by decide) [shot stamp pl kd (.sl 0 g Cp l.length), encC c] _ (.two (Sub.aggs ⟨Sub.refl _, Sub.refl _, Sub.refl _, Sub.sl _ 0 _ _ _, trivial⟩) (Sub.refl _)) cf ?_
          rintro r L' ⟨i2, b2, j2, rb2, hf, hf2, hsq⟩
          rw [stepP_R hg hk.1 hk.2 hp hcr hf hf2 atL_spec] at hsq
          change StepQ (stepD kd pl _ c) r L' at hsq
          cases hsd : stepD kd pl l c with
          | none =>
            rw [hsd] at hsq hfd
            obtain ⟨rfl, rfl⟩ := hsq
            refine ⟨_, Sub.refl _, ?_⟩
            repeat (first | refine Ops.go ?_ | refine And.intro rfl ?_ | refine And.intro (Nat.le_of_ble_eq_true rfl) ?_ | refine And.intro (Int.natCast_nonneg _) ?_ | refine fun (_ : Nat) => ?_ | refine Ord.go ?_ | refine Run.go rfl ?_ | refine Cont.go rfl ?_ | refine OrdP.go ?_)
            exact ⟨_, [], FinOk.drop _ _, .inr (.inr (.inl ⟨h1, hst, hfd, rfl, rfl⟩))⟩
          | some l2 =>
            rw [hsd] at hsq hfd
            obtain ⟨g1, v1, o1, hv1, rfl, rfl⟩ := hsq
            have hg2 := stepD_good hg hsd
            rcases hv1 with ⟨rfl, rfl, rfl⟩ | ⟨C1, rfl, rfl⟩
            · refine ⟨_, Sub.refl _, ?_⟩
              repeat (first | refine Ops.go ?_ | refine And.intro rfl ?_ | refine And.intro (Nat.le_of_ble_eq_true rfl) ?_ | refine And.intro (Int.natCast_nonneg _) ?_ | refine fun (_ : Nat) => ?_ | refine Ord.go ?_ | refine Run.go rfl ?_ | refine Cont.go rfl ?_ | refine OrdP.go ?_)
              refine fun r hr => ?_
              obtain rfl := add1 hr (by omega)
              repeat (first | refine Ops.go ?_ | refine And.intro rfl ?_ | refine And.intro (Nat.le_of_ble_eq_true rfl) ?_ | refine And.intro (Int.natCast_nonneg _) ?_ | refine fun (_ : Nat) => ?_ | refine Ord.go ?_ | refine Run.go rfl ?_ | refine Cont.go rfl ?_ | refine OrdP.go ?_)
              refine Cont.lpW ?_
              refine ⟨m - (i + 1), [.junk, .junk, .junk, .ptr 0 gs 0, .junk, .junk, .ptr 1 gr 0, .junk, .junk, .junk, .junk, .junk, .junk, .junk, .junk, .junk, .junk, .junk, .junk, .junk, .junk, .junk, .junk, .junk, .junk, .junk, .junk, .junk, .junk, .junk, .junk, .junk, .junk, .junk, rdc cs m, .int .i64 m, .int .i64 (i + 1 : Nat), .junk, .junk, .junk, .junk, .junk, .junk, .junk, .junk, .junk, .junk, .junk, .junk, .junk, .junk, .junk, .junk, .junk, .junk, .junk, .junk, .junk, .junk, .junk, .junk, .junk, .junk, .junk, .junk, .junk, .junk, .junk, .junk, .junk, .junk, .junk, .junk, .junk, .junk, .junk, .junk, .junk, .junk, .junk, .junk, .junk, .junk], [(gs, .cells 24 [.int .i64 stamp, .str pl, .int .i64 kd, .nils]), (gr, .cells 24 [.int .i64 0, .str ⟨#[]⟩, .int .i64 0, .nils]), (g1, .dead)], by omega, Weak.sel ?_ [0, 1, 2] (by decide) ⟨rfl, SubO.cells ⟨Sub.refl _, Sub.refl _, Sub.refl _, Sub.refl _, trivial⟩, rfl, SubO.refl _, rfl, SubO.refl _, trivial⟩,
                ⟨i + 1, [], .nils, .dead, gs, gr, g1, rfl, by omega, hg2, hfd, .inl ⟨rfl, rfl, rfl⟩, rfl, rfl⟩⟩
              repeat (first | exact trivial | refine And.intro (Sub.junk _) ?_ | refine And.intro (Sub.refl _) ?_ | refine And.intro (Sub.sl _ _ _ _ _) ?_ | refine And.intro (Sub.ptr _ _ _ _) ?_)
            · refine ⟨.tuple [.sl 2 g1 C1 l2.length, .bool true], Sub.tuples ⟨Sub.sl _ 2 _ _ _, Sub.refl _, trivial⟩, ?_⟩
              repeat (first | refine Ops.go ?_ | refine And.intro rfl ?_ | refine And.intro (Nat.le_of_ble_eq_true rfl) ?_ | refine And.intro (Int.natCast_nonneg _) ?_ | refine fun (_ : Nat) => ?_ | refine Ord.go ?_ | refine Run.go rfl ?_ | refine Cont.go rfl ?_ | refine OrdP.go ?_)
              refine fun r hr => ?_
              obtain rfl := add1 hr (by omega)
              repeat (first | refine Ops.go ?_ | refine And.intro rfl ?_ | refine And.intro (Nat.le_of_ble_eq_true rfl) ?_ | refine And.intro (Int.natCast_nonneg _) ?_ | refine fun (_ : Nat) => ?_ | refine Ord.go ?_ | refine Run.go rfl ?_ | refine Cont.go rfl ?_ | refine OrdP.go ?_)
              refine Cont.lpW ?_
              refine ⟨m - (i + 1), [.junk, .junk, .junk, .ptr 0 gs 0, .junk, .junk, .ptr 1 gr 0, .junk, .junk, .junk, .junk, .junk, .junk, .junk, .junk, .junk, .junk, .junk, .junk, .junk, .junk, .junk, .junk, .junk, .junk, .junk, .junk, .junk, .junk, .junk, .junk, .junk, .junk, .junk, rdc cs m, .int .i64 m, .int .i64 (i + 1 : Nat), .junk, .junk, .junk, .junk, .junk, .junk, .junk, .junk, .junk, .junk, .junk, .junk, .junk, .junk, .junk, .junk, .junk, .junk, .junk, .junk, .junk, .junk, .junk, .junk, .junk, .junk, .junk, .junk, .junk, .junk, .junk, .junk, .junk, .junk, .junk, .junk, .junk, .junk, .junk, .junk, .junk, .junk, .junk, .junk, .junk, .junk], [(gs, .cells 24 [.int .i64 stamp, .str pl, .int .i64 kd, .sl 2 g1 C1 l2.length]), (gr, .cells 24 [.int .i64 0, .str ⟨#[]⟩, .int .i64 0, .nils]), (g1, .row 50 3 C1 (l2.map enc))], by omega, Weak.sel ?_ [0, 1, 2] (by decide) ⟨rfl, SubO.cells ⟨Sub.refl _, Sub.refl _, Sub.refl _, Sub.sl _ 2 _ _ _, trivial⟩, rfl, SubO.refl _, rfl, SubO.refl _, trivial⟩,
                ⟨i + 1, l2, .sl 2 g1 C1 l2.length, .row 50 3 C1 (l2.map enc), gs, gr, g1, rfl, by omega, hg2, hfd, .inr ⟨C1, rfl, rfl⟩, rfl, rfl⟩⟩
              repeat (first | exact trivial | refine And.intro (Sub.junk _) ?_ | refine And.intro (Sub.refl _) ?_ | refine And.intro (Sub.sl _ _ _ _ _) ?_ | refine And.intro (Sub.ptr _ _ _ _) ?_)
    · have h : ¬ (i : Int) < (m : Int) := h
      have e0 : (cs.take m).drop i = [] := List.drop_eq_nil_of_le (by rw [List.length_take]; omega)
      rw [e0] at hfd
      repeat (first | refine Ops.go ?_ | refine And.intro rfl ?_ | refine And.intro (Nat.le_of_ble_eq_true rfl) ?_ | refine And.intro (Int.natCast_nonneg _) ?_ | refine fun (_ : Nat) => ?_ | refine Ord.go ?_ | refine Run.go rfl ?_ | refine Cont.go rfl ?_ | refine OrdP.go ?_)
      obtain ⟨v2, hs2, hv2⟩ := hv.move 0
      exact ⟨.tuple [shot stamp pl kd v2, .int .i64 0], _, FinOk.keep _ [2] (Sub.tuples ⟨Sub.aggs ⟨Sub.refl _, Sub.refl _, Sub.refl _, hs2, trivial⟩, Sub.refl _, trivial⟩) (by decide) rfl, .inr (.inr (.inr ⟨h1, hst, l, hfd, v2, g, o, hv2, rfl, rfl⟩))⟩
end Go.Proofs.YtfohedaadncefaaDoor.HBT
