/- The contract of the document's own text 'Fold'. -/
import Derived.Test.YtfohedaadncefaaDoorHbG12
import Derived.Test.YtfohedaadncefaaDoorHbG4
import Derived.Test.YtfohedaadncefaaDoorHbF3
import Derived.Test.YtfohedaadncefaaDoorHbD8
namespace Go.Proofs.YtfohedaadncefaaDoor.HBT
open Go Go.Proofs.YtfohedaadncefaaDoor.HB Go.RowKit
set_option maxRecDepth 20000

set_option maxHeartbeats 16000000 in
theorem foldRef_spec (st : Int) (pl : ByteArray) (kd : Int) (xs : List Sn) (n : Nat) (stamp : Int) (cs : List Ch) (m : Nat) (hx : n ≤ xs.length) (hn : n ≤ 70) (px : ∀ x ∈ xs, x.p.size ≤ 9223372036854775807) (hc : m ≤ cs.length) (hm : m ≤ 1000) (pc : ∀ c ∈ cs, c.p.size ≤ 9223372036854775807) :
    FnSpec C 49 [shot st pl kd (rdo xs n), .int .i64 stamp, rdc cs m] [] (FoldQ (refP st pl kd xs n) st stamp pl kd (foldD kd pl (xs.take n) (cs.take m))) := by
  have c1 := refCheck_spec st pl kd xs n hx px
  refine FnSpec.start C_ok Tryd.func49 rfl rfl Tryd.ntmps49 ?_
  repeat (first | refine Ops.go ?_ | refine And.intro rfl ?_ | refine And.intro (Nat.le_of_ble_eq_true rfl) ?_ | refine And.intro (Int.natCast_nonneg _) ?_ | refine fun (_ : Nat) => ?_ | refine Ord.go ?_ | refine Run.go rfl ?_ | refine Cont.go rfl ?_ | refine OrdP.go ?_)
  rename_i gs0 gr0
  by_cases h1 : refP st pl kd xs n
  case neg =>
    rw [if_neg h1] at c1
    refine ACall.ret c1 ?_
    repeat (first | refine Ops.go ?_ | refine And.intro rfl ?_ | refine And.intro (Nat.le_of_ble_eq_true rfl) ?_ | refine And.intro (Int.natCast_nonneg _) ?_ | refine fun (_ : Nat) => ?_ | refine Ord.go ?_ | refine Run.go rfl ?_ | refine Cont.go rfl ?_ | refine OrdP.go ?_)
    refine ⟨fun _ => ?_, fun h => absurd (by decide) h⟩
    repeat (first | refine Ops.go ?_ | refine And.intro rfl ?_ | refine And.intro (Nat.le_of_ble_eq_true rfl) ?_ | refine And.intro (Int.natCast_nonneg _) ?_ | refine fun (_ : Nat) => ?_ | refine Ord.go ?_ | refine Run.go rfl ?_ | refine Cont.go rfl ?_ | refine OrdP.go ?_)
    exact ⟨_, [], FinOk.drop _ _, .inl ⟨h1, rfl, rfl⟩⟩
  rw [if_pos h1] at c1
  refine ACall.ret c1 ?_
  repeat (first | refine Ops.go ?_ | refine And.intro rfl ?_ | refine And.intro (Nat.le_of_ble_eq_true rfl) ?_ | refine And.intro (Int.natCast_nonneg _) ?_ | refine fun (_ : Nat) => ?_ | refine Ord.go ?_ | refine Run.go rfl ?_ | refine Cont.go rfl ?_ | refine OrdP.go ?_)
  refine ⟨fun h => absurd rfl h, fun _ => ?_⟩
  repeat (first | refine Ops.go ?_ | refine And.intro rfl ?_ | refine And.intro (Nat.le_of_ble_eq_true rfl) ?_ | refine And.intro (Int.natCast_nonneg _) ?_ | refine fun (_ : Nat) => ?_ | refine Ord.go ?_ | refine Run.go rfl ?_ | refine Cont.go rfl ?_ | refine OrdP.go ?_)
  refine ⟨fun h => ?_, fun h => ?_⟩
  · have h : stamp ≤ st := h
    repeat (first | refine Ops.go ?_ | refine And.intro rfl ?_ | refine And.intro (Nat.le_of_ble_eq_true rfl) ?_ | refine And.intro (Int.natCast_nonneg _) ?_ | refine fun (_ : Nat) => ?_ | refine Ord.go ?_ | refine Run.go rfl ?_ | refine Cont.go rfl ?_ | refine OrdP.go ?_)
    exact ⟨_, [], FinOk.drop _ _, .inr (.inl ⟨h1, .inl h, rfl, rfl⟩)⟩
  have h2 : ¬ stamp ≤ st := h
  repeat (first | refine Ops.go ?_ | refine And.intro rfl ?_ | refine And.intro (Nat.le_of_ble_eq_true rfl) ?_ | refine And.intro (Int.natCast_nonneg _) ?_ | refine fun (_ : Nat) => ?_ | refine Ord.go ?_ | refine Run.go rfl ?_ | refine Cont.go rfl ?_ | refine OrdP.go ?_)
  refine ⟨fun h => ?_, fun h => ?_⟩
  · have h : (2147483647 : Int) < stamp := h
    repeat (first | refine Ops.go ?_ | refine And.intro rfl ?_ | refine And.intro (Nat.le_of_ble_eq_true rfl) ?_ | refine And.intro (Int.natCast_nonneg _) ?_ | refine fun (_ : Nat) => ?_ | refine Ord.go ?_ | refine Run.go rfl ?_ | refine Cont.go rfl ?_ | refine OrdP.go ?_)
    exact ⟨_, [], FinOk.drop _ _, .inr (.inl ⟨h1, .inr h, rfl, rfl⟩)⟩
  have h3 : ¬ (2147483647 : Int) < stamp := h
  have hst : ¬ (stamp ≤ st ∨ 2147483647 < stamp) := by rintro (h | h); exact h2 h; exact h3 h
  have hg0 := good_of hx ((check_ref st pl kd xs n hx).2 h1)
  repeat (first | refine Ops.go ?_ | refine And.intro rfl ?_ | refine And.intro (Nat.le_of_ble_eq_true rfl) ?_ | refine And.intro (Int.natCast_nonneg _) ?_ | refine fun (_ : Nat) => ?_ | refine Ord.go ?_ | refine Run.go rfl ?_ | refine Cont.go rfl ?_ | refine OrdP.go ?_)
  refine ⟨by simp; omega, fun h => ?_, fun h => ?_⟩
  · have hxs : xs.take n = [] := List.map_eq_nil_iff.1 (by rw [List.map_take]; exact h)
    repeat (first | refine Ops.go ?_ | refine And.intro rfl ?_ | refine And.intro (Nat.le_of_ble_eq_true rfl) ?_ | refine And.intro (Int.natCast_nonneg _) ?_ | refine fun (_ : Nat) => ?_ | refine Ord.go ?_ | refine Run.go rfl ?_ | refine Cont.go rfl ?_ | refine OrdP.go ?_)
    refine Run.loopW (fun k env L => ∃ (i : Nat) (l : List Sn) (v : AV) (o : AObj) (gs gr g : Nat), k = m - i ∧ i ≤ m ∧ Good l ∧ foldD kd pl (xs.take n) (cs.take m) = foldD kd pl l ((cs.take m).drop i) ∧ LN 2 l v g o ∧ env = [.junk, .int .i64 stamp, rdc cs m, .ptr 0 gs 0, .junk, .junk, .ptr 1 gr 0, .junk, v, .int .i64 i, .junk, .junk, .junk, .junk, .junk, .junk, .junk, .junk, .junk, .junk, .junk, .junk, .junk, .junk, .junk, .junk, .junk, .junk, .junk, .junk, .junk, .junk, .junk, .junk, .junk, .junk, .junk, .junk, .junk, .junk, .junk, .junk, .junk, .junk, .junk, .junk, .junk, .junk, .junk, .junk, .junk, .junk, .junk, .junk, .junk, .junk] ∧ L = [(gs, .cells 24 [.int .i64 st, .str pl, .int .i64 kd, rdo xs n]), (gr, .cells 24 [.int .i64 0, .str ⟨#[]⟩, .int .i64 0, .nils]), (g, o)]) m
      [.junk, .int .i64 stamp, rdc cs m, .ptr 0 gs0 0, .junk, .junk, .ptr 1 gr0 0, .junk, .nils, .int .i64 (0 : Nat), .junk, .junk, .junk, .junk, .junk, .junk, .junk, .junk, .junk, .junk, .junk, .junk, .junk, .junk, .junk, .junk, .junk, .junk, .junk, .junk, .junk, .junk, .junk, .junk, .junk, .junk, .junk, .junk, .junk, .junk, .junk, .junk, .junk, .junk, .junk, .junk, .junk, .junk, .junk, .junk, .junk, .junk, .junk, .junk, .junk, .junk]
      [(gs0, .cells 24 [.int .i64 st, .str pl, .int .i64 kd, rdo xs n]), (gr0, .cells 24 [.int .i64 0, .str ⟨#[]⟩, .int .i64 0, .nils]), (0, .dead)]
      (Weak.sel ?_ [0, 1, 9] (by decide) ⟨rfl, SubO.refl _, rfl, SubO.refl _, rfl, trivial, trivial⟩)
      ⟨0, xs.take n, .nils, .dead, gs0, gr0, 0, by omega, by omega, hg0, by rw [List.drop_zero], .inl ⟨hxs, rfl, rfl⟩, rfl, rfl⟩ ?_
    · repeat (first | exact trivial | refine And.intro (Sub.junk _) ?_ | refine And.intro (Sub.refl _) ?_ | refine And.intro (Sub.sl _ _ _ _ _) ?_ | refine And.intro (Sub.ptr _ _ _ _) ?_)
    rintro k env L ⟨i, l, v, o, gs, gr, g, rfl, hi, hg, hfd, hv, rfl, rfl⟩
    repeat (first | refine Ops.go ?_ | refine And.intro rfl ?_ | refine And.intro (Nat.le_of_ble_eq_true rfl) ?_ | refine And.intro (Int.natCast_nonneg _) ?_ | refine fun (_ : Nat) => ?_ | refine Ord.go ?_ | refine Run.go rfl ?_ | refine Cont.go rfl ?_ | refine OrdP.go ?_)
    refine ⟨fun h => ?_, fun h => ?_⟩
    · have h : (i : Int) < (m : Int) := h
      obtain ⟨c, ec⟩ : ∃ c, cs[i]? = some c := ⟨cs[i], List.getElem?_eq_getElem (by omega)⟩
      have ed : (cs.take m).drop i = c :: (cs.take m).drop (i + 1) := by
        rw [List.drop_eq_getElem_cons (by rw [List.length_take]; omega)]
        congr 1
        rw [List.getElem_take]
        exact Option.some.inj ((List.getElem?_eq_getElem (by omega)).symm.trans ec)
      rw [ed] at hfd
      rw [foldD_cons] at hfd
      obtain ⟨v0, hs0, hv0⟩ := hv.move 0
      have cf := change_spec st pl kd (rdo xs n) g l v0 o hv0 c (by have := hg.le; omega) (pc c (List.mem_of_getElem? ec))
      repeat (first | refine Ops.go ?_ | refine And.intro rfl ?_ | refine And.intro (Nat.le_of_ble_eq_true rfl) ?_ | refine And.intro (Int.natCast_nonneg _) ?_ | refine fun (_ : Nat) => ?_ | refine Ord.go ?_ | refine Run.go rfl ?_ | refine Cont.go rfl ?_ | refine OrdP.go ?_)
      refine Run.drawnP [0] [0, 1, 2, 3, 4, 5, 6, 7, 8, 9, 10, 11] (by kernel_rfl) ?_
      repeat (first | refine Ops.go ?_ | refine And.intro rfl ?_ | refine And.intro (Nat.le_of_ble_eq_true rfl) ?_ | refine And.intro (Int.natCast_nonneg _) ?_ | refine fun (_ : Nat) => ?_ | refine Ord.go ?_ | refine Run.go rfl ?_ | refine Cont.go rfl ?_ | refine OrdP.go ?_)
      refine ⟨h, encC c, encC_at _ _ _ ec, ?_⟩
      repeat (first | refine Ops.go ?_ | refine And.intro rfl ?_ | refine And.intro (Nat.le_of_ble_eq_true rfl) ?_ | refine And.intro (Int.natCast_nonneg _) ?_ | refine fun (_ : Nat) => ?_ | refine Ord.go ?_ | refine Run.go rfl ?_ | refine Cont.go rfl ?_ | refine OrdP.go ?_)
      refine ACallP.sel [2] (by decide) rfl [shot st pl kd (rdo xs n), v0, encC c] _ ⟨Sub.refl _, hs0, Sub.refl _, trivial⟩ cf ?_
      rintro r L' ⟨q, hq, hsq⟩
      rw [stepD_of hg hq] at hsq
      cases hsd : stepD kd pl l c with
      | none =>
        rw [hsd] at hsq hfd
        obtain ⟨rfl, rfl⟩ := hsq
        refine ⟨_, Sub.refl _, ?_⟩
        repeat (first | refine Ops.go ?_ | refine And.intro rfl ?_ | refine And.intro (Nat.le_of_ble_eq_true rfl) ?_ | refine And.intro (Int.natCast_nonneg _) ?_ | refine fun (_ : Nat) => ?_ | refine Ord.go ?_ | refine Run.go rfl ?_ | refine Cont.go rfl ?_ | refine OrdP.go ?_)
        exact ⟨_, [], FinOk.drop _ _, .inr (.inr (.inl ⟨h1, hst, hfd, rfl, rfl⟩))⟩
      | some l2 =>
        rw [hsd] at hsq hfd
        obtain ⟨g1, v1, o1, hv1, rfl, rfl⟩ := hsq
        have hg2 := stepD_good hg hsd
        obtain ⟨v2, hs2, hv2⟩ := hv1.move 2
        refine ⟨.tuple [v2, .bool true], Sub.tuples ⟨hs2, Sub.refl _, trivial⟩, ?_⟩
        repeat (first | refine Ops.go ?_ | refine And.intro rfl ?_ | refine And.intro (Nat.le_of_ble_eq_true rfl) ?_ | refine And.intro (Int.natCast_nonneg _) ?_ | refine fun (_ : Nat) => ?_ | refine Ord.go ?_ | refine Run.go rfl ?_ | refine Cont.go rfl ?_ | refine OrdP.go ?_)
        refine fun r hr => ?_
        obtain rfl := add1 hr (by omega)
        repeat (first | refine Ops.go ?_ | refine And.intro rfl ?_ | refine And.intro (Nat.le_of_ble_eq_true rfl) ?_ | refine And.intro (Int.natCast_nonneg _) ?_ | refine fun (_ : Nat) => ?_ | refine Ord.go ?_ | refine Run.go rfl ?_ | refine Cont.go rfl ?_ | refine OrdP.go ?_)
        refine Cont.lpW ?_
        refine ⟨m - (i + 1), [.junk, .int .i64 stamp, rdc cs m, .ptr 0 gs 0, .junk, .junk, .ptr 1 gr 0, .junk, v2, .int .i64 (i + 1 : Nat), .junk, .junk, .junk, .junk, .junk, .junk, .junk, .junk, .junk, .junk, .junk, .junk, .junk, .junk, .junk, .junk, .junk, .junk, .junk, .junk, .junk, .junk, .junk, .junk, .junk, .junk, .junk, .junk, .junk, .junk, .junk, .junk, .junk, .junk, .junk, .junk, .junk, .junk, .junk, .junk, .junk, .junk, .junk, .junk, .junk, .junk], [(gs, .cells 24 [.int .i64 st, .str pl, .int .i64 kd, rdo xs n]), (gr, .cells 24 [.int .i64 0, .str ⟨#[]⟩, .int .i64 0, .nils]), (g1, o1)], by omega, Weak.sel ?_ [0, 1, 2] (by decide) ⟨rfl, SubO.refl _, rfl, SubO.refl _, rfl, SubO.refl _, trivial⟩,
          ⟨i + 1, l2, v2, o1, gs, gr, g1, rfl, by omega, hg2, hfd, hv2, rfl, rfl⟩⟩
        repeat (first | exact trivial | refine And.intro (Sub.junk _) ?_ | refine And.intro (Sub.refl _) ?_ | refine And.intro (Sub.sl _ _ _ _ _) ?_ | refine And.intro (Sub.ptr _ _ _ _) ?_)
    · have h : ¬ (i : Int) < (m : Int) := h
      have e0 : (cs.take m).drop i = [] := List.drop_eq_nil_of_le (by rw [List.length_take]; omega)
      rw [e0] at hfd
      rcases hv with ⟨rfl, rfl, rfl⟩ | ⟨Cp, rfl, rfl⟩
      · repeat (first | refine Ops.go ?_ | refine And.intro rfl ?_ | refine And.intro (Nat.le_of_ble_eq_true rfl) ?_ | refine And.intro (Int.natCast_nonneg _) ?_ | refine fun (_ : Nat) => ?_ | refine Ord.go ?_ | refine Run.go rfl ?_ | refine Cont.go rfl ?_ | refine OrdP.go ?_)
        exact ⟨.tuple [shot stamp pl kd .nils, .int .i64 0], _, FinOk.keep _ [2] (Sub.refl _) (by decide) rfl, .inr (.inr (.inr ⟨h1, hst, [], hfd, .nils, g, .dead, .inl ⟨rfl, rfl, rfl⟩, rfl, rfl⟩))⟩
      · repeat (first | refine Ops.go ?_ | refine And.intro rfl ?_ | refine And.intro (Nat.le_of_ble_eq_true rfl) ?_ | refine And.intro (Int.natCast_nonneg _) ?_ | refine fun (_ : Nat) => ?_ | refine Ord.go ?_ | refine Run.go rfl ?_ | refine Cont.go rfl ?_ | refine OrdP.go ?_)
        exact ⟨.tuple [shot stamp pl kd (.sl 0 g Cp l.length), .int .i64 0], _, FinOk.keep _ [2] (Sub.tuples ⟨Sub.aggs ⟨Sub.refl _, Sub.refl _, Sub.refl _, Sub.sl _ 0 _ _ _, trivial⟩, Sub.refl _, trivial⟩) (by decide) rfl, .inr (.inr (.inr ⟨h1, hst, l, hfd, .sl 0 g Cp l.length, g, _, .inr ⟨Cp, rfl, rfl⟩, rfl, rfl⟩))⟩
  · repeat (first | refine Ops.go ?_ | refine And.intro rfl ?_ | refine And.intro (Nat.le_of_ble_eq_true rfl) ?_ | refine And.intro (Int.natCast_nonneg _) ?_ | refine fun (_ : Nat) => ?_ | refine Ord.go ?_ | refine Run.go rfl ?_ | refine Cont.go rfl ?_ | refine OrdP.go ?_)
    rename_i g0 Cp0
    refine Run.loopW (fun k env L => ∃ (i : Nat) (l : List Sn) (v : AV) (o : AObj) (gs gr g : Nat), k = m - i ∧ i ≤ m ∧ Good l ∧ foldD kd pl (xs.take n) (cs.take m) = foldD kd pl l ((cs.take m).drop i) ∧ LN 2 l v g o ∧ env = [.junk, .int .i64 stamp, rdc cs m, .ptr 0 gs 0, .junk, .junk, .ptr 1 gr 0, .junk, v, .int .i64 i, .junk, .junk, .junk, .junk, .junk, .junk, .junk, .junk, .junk, .junk, .junk, .junk, .junk, .junk, .junk, .junk, .junk, .junk, .junk, .junk, .junk, .junk, .junk, .junk, .junk, .junk, .junk, .junk, .junk, .junk, .junk, .junk, .junk, .junk, .junk, .junk, .junk, .junk, .junk, .junk, .junk, .junk, .junk, .junk, .junk, .junk] ∧ L = [(gs, .cells 24 [.int .i64 st, .str pl, .int .i64 kd, rdo xs n]), (gr, .cells 24 [.int .i64 0, .str ⟨#[]⟩, .int .i64 0, .nils]), (g, o)]) m
      [.junk, .int .i64 stamp, rdc cs m, .ptr 0 gs0 0, .junk, .junk, .ptr 1 gr0 0, .junk, .sl 2 g0 Cp0 (List.take n (List.map enc xs)).length, .int .i64 (0 : Nat), .junk, .junk, .junk, .junk, .junk, .junk, .junk, .junk, .junk, .junk, .junk, .junk, .junk, .junk, .junk, .junk, .junk, .junk, .junk, .junk, .junk, .junk, .junk, .junk, .junk, .junk, .junk, .junk, .junk, .junk, .junk, .junk, .junk, .junk, .junk, .junk, .junk, .junk, .junk, .junk, .junk, .junk, .junk, .junk, .junk, .junk]
      [(gs0, .cells 24 [.int .i64 st, .str pl, .int .i64 kd, rdo xs n]), (gr0, .cells 24 [.int .i64 0, .str ⟨#[]⟩, .int .i64 0, .nils]), (g0, .row 50 3 Cp0 (List.take n (List.map enc xs)))]
      (Weak.sel ?_ [0, 1, 2] (by decide) ⟨rfl, SubO.refl _, rfl, SubO.refl _, rfl, SubO.refl _, trivial⟩)
      ⟨0, xs.take n, (.sl 2 g0 Cp0 (List.take n (List.map enc xs)).length), (.row 50 3 Cp0 (List.take n (List.map enc xs))), gs0, gr0, g0, by omega, by omega, hg0, by rw [List.drop_zero], .inr ⟨Cp0, by rw [← List.map_take, List.length_map], by rw [List.map_take]⟩, rfl, rfl⟩ ?_
    · repeat (first | exact trivial | refine And.intro (Sub.junk _) ?_ | refine And.intro (Sub.refl _) ?_ | refine And.intro (Sub.sl _ _ _ _ _) ?_ | refine And.intro (Sub.ptr _ _ _ _) ?_)
    rintro k env L ⟨i, l, v, o, gs, gr, g, rfl, hi, hg, hfd, hv, rfl, rfl⟩
    repeat (first | refine Ops.go ?_ | refine And.intro rfl ?_ | refine And.intro (Nat.le_of_ble_eq_true rfl) ?_ | refine And.intro (Int.natCast_nonneg _) ?_ | refine fun (_ : Nat) => ?_ | refine Ord.go ?_ | refine Run.go rfl ?_ | refine Cont.go rfl ?_ | refine OrdP.go ?_)
    refine ⟨fun h => ?_, fun h => ?_⟩
    · have h : (i : Int) < (m : Int) := h
      obtain ⟨c, ec⟩ : ∃ c, cs[i]? = some c := ⟨cs[i], List.getElem?_eq_getElem (by omega)⟩
      have ed : (cs.take m).drop i = c :: (cs.take m).drop (i + 1) := by
        rw [List.drop_eq_getElem_cons (by rw [List.length_take]; omega)]
        congr 1
        rw [List.getElem_take]
        exact Option.some.inj ((List.getElem?_eq_getElem (by omega)).symm.trans ec)
      rw [ed] at hfd
      rw [foldD_cons] at hfd
      obtain ⟨v0, hs0, hv0⟩ := hv.move 0
      have cf := change_spec st pl kd (rdo xs n) g l v0 o hv0 c (by have := hg.le; omega) (pc c (List.mem_of_getElem? ec))
      repeat (first | refine Ops.go ?_ | refine And.intro rfl ?_ | refine And.intro (Nat.le_of_ble_eq_true rfl) ?_ | refine And.intro (Int.natCast_nonneg _) ?_ | refine fun (_ : Nat) => ?_ | refine Ord.go ?_ | refine Run.go rfl ?_ | refine Cont.go rfl ?_ | refine OrdP.go ?_)
      refine Run.drawnP [0] [0, 1, 2, 3, 4, 5, 6, 7, 8, 9, 10, 11] (by kernel_rfl) ?_
      repeat (first | refine Ops.go ?_ | refine And.intro rfl ?_ | refine And.intro (Nat.le_of_ble_eq_true rfl) ?_ | refine And.intro (Int.natCast_nonneg _) ?_ | refine fun (_ : Nat) => ?_ | refine Ord.go ?_ | refine Run.go rfl ?_ | refine Cont.go rfl ?_ | refine OrdP.go ?_)
      refine ⟨h, encC c, encC_at _ _ _ ec, ?_⟩
      repeat (first | refine Ops.go ?_ | refine And.intro rfl ?_ | refine And.intro (Nat.le_of_ble_eq_true rfl) ?_ | refine And.intro (Int.natCast_nonneg _) ?_ | refine fun (_ : Nat) => ?_ | refine Ord.go ?_ | refine Run.go rfl ?_ | refine Cont.go rfl ?_ | refine OrdP.go ?_)
      refine ACallP.sel [2] (by decide) rfl [shot st pl kd (rdo xs n), v0, encC c] _ ⟨Sub.refl _, hs0, Sub.refl _, trivial⟩ cf ?_
      rintro r L' ⟨q, hq, hsq⟩
      rw [stepD_of hg hq] at hsq
      cases hsd : stepD kd pl l c with
      | none =>
        rw [hsd] at hsq hfd
        obtain ⟨rfl, rfl⟩ := hsq
        refine ⟨_, Sub.refl _, ?_⟩
        repeat (first | refine Ops.go ?_ | refine And.intro rfl ?_ | refine And.intro (Nat.le_of_ble_eq_true rfl) ?_ | refine And.intro (Int.natCast_nonneg _) ?_ | refine fun (_ : Nat) => ?_ | refine Ord.go ?_ | refine Run.go rfl ?_ | refine Cont.go rfl ?_ | refine OrdP.go ?_)
        exact ⟨_, [], FinOk.drop _ _, .inr (.inr (.inl ⟨h1, hst, hfd, rfl, rfl⟩))⟩
      | some l2 =>
        rw [hsd] at hsq hfd
        obtain ⟨g1, v1, o1, hv1, rfl, rfl⟩ := hsq
        have hg2 := stepD_good hg hsd
        obtain ⟨v2, hs2, hv2⟩ := hv1.move 2
        refine ⟨.tuple [v2, .bool true], Sub.tuples ⟨hs2, Sub.refl _, trivial⟩, ?_⟩
        repeat (first | refine Ops.go ?_ | refine And.intro rfl ?_ | refine And.intro (Nat.le_of_ble_eq_true rfl) ?_ | refine And.intro (Int.natCast_nonneg _) ?_ | refine fun (_ : Nat) => ?_ | refine Ord.go ?_ | refine Run.go rfl ?_ | refine Cont.go rfl ?_ | refine OrdP.go ?_)
        refine fun r hr => ?_
        obtain rfl := add1 hr (by omega)
        repeat (first | refine Ops.go ?_ | refine And.intro rfl ?_ | refine And.intro (Nat.le_of_ble_eq_true rfl) ?_ | refine And.intro (Int.natCast_nonneg _) ?_ | refine fun (_ : Nat) => ?_ | refine Ord.go ?_ | refine Run.go rfl ?_ | refine Cont.go rfl ?_ | refine OrdP.go ?_)
        refine Cont.lpW ?_
        refine ⟨m - (i + 1), [.junk, .int .i64 stamp, rdc cs m, .ptr 0 gs 0, .junk, .junk, .ptr 1 gr 0, .junk, v2, .int .i64 (i + 1 : Nat), .junk, .junk, .junk, .junk, .junk, .junk, .junk, .junk, .junk, .junk, .junk, .junk, .junk, .junk, .junk, .junk, .junk, .junk, .junk, .junk, .junk, .junk, .junk, .junk, .junk, .junk, .junk, .junk, .junk, .junk, .junk, .junk, .junk, .junk, .junk, .junk, .junk, .junk, .junk, .junk, .junk, .junk, .junk, .junk, .junk, .junk], [(gs, .cells 24 [.int .i64 st, .str pl, .int .i64 kd, rdo xs n]), (gr, .cells 24 [.int .i64 0, .str ⟨#[]⟩, .int .i64 0, .nils]), (g1, o1)], by omega, Weak.sel ?_ [0, 1, 2] (by decide) ⟨rfl, SubO.refl _, rfl, SubO.refl _, rfl, SubO.refl _, trivial⟩,
          ⟨i + 1, l2, v2, o1, gs, gr, g1, rfl, by omega, hg2, hfd, hv2, rfl, rfl⟩⟩
        repeat (first | exact trivial | refine And.intro (Sub.junk _) ?_ | refine And.intro (Sub.refl _) ?_ | refine And.intro (Sub.sl _ _ _ _ _) ?_ | refine And.intro (Sub.ptr _ _ _ _) ?_)
    · have h : ¬ (i : Int) < (m : Int) := h
      have e0 : (cs.take m).drop i = [] := List.drop_eq_nil_of_le (by rw [List.length_take]; omega)
      rw [e0] at hfd
      rcases hv with ⟨rfl, rfl, rfl⟩ | ⟨Cp, rfl, rfl⟩
      · repeat (first | refine Ops.go ?_ | refine And.intro rfl ?_ | refine And.intro (Nat.le_of_ble_eq_true rfl) ?_ | refine And.intro (Int.natCast_nonneg _) ?_ | refine fun (_ : Nat) => ?_ | refine Ord.go ?_ | refine Run.go rfl ?_ | refine Cont.go rfl ?_ | refine OrdP.go ?_)
        exact ⟨.tuple [shot stamp pl kd .nils, .int .i64 0], _, FinOk.keep _ [2] (Sub.refl _) (by decide) rfl, .inr (.inr (.inr ⟨h1, hst, [], hfd, .nils, g, .dead, .inl ⟨rfl, rfl, rfl⟩, rfl, rfl⟩))⟩
      · repeat (first | refine Ops.go ?_ | refine And.intro rfl ?_ | refine And.intro (Nat.le_of_ble_eq_true rfl) ?_ | refine And.intro (Int.natCast_nonneg _) ?_ | refine fun (_ : Nat) => ?_ | refine Ord.go ?_ | refine Run.go rfl ?_ | refine Cont.go rfl ?_ | refine OrdP.go ?_)
        exact ⟨.tuple [shot stamp pl kd (.sl 0 g Cp l.length), .int .i64 0], _, FinOk.keep _ [2] (Sub.tuples ⟨Sub.aggs ⟨Sub.refl _, Sub.refl _, Sub.refl _, Sub.sl _ 0 _ _ _, trivial⟩, Sub.refl _, trivial⟩) (by decide) rfl, .inr (.inr (.inr ⟨h1, hst, l, hfd, .sl 0 g Cp l.length, g, _, .inr ⟨Cp, rfl, rfl⟩, rfl, rfl⟩))⟩
end Go.Proofs.YtfohedaadncefaaDoor.HBT
/- The contracts of the law's helpers for lists of changes: 'other', 'roomyChanges', 'turnedChanges', 'untouchedChanges'. -/
namespace Go.Proofs.YtfohedaadncefaaDoor.HBT
open Go Go.Proofs.YtfohedaadncefaaDoor.HB Go.RowKit
set_option maxRecDepth 8000

def otherC : Ch := ⟨91, ⟨#[98, 101, 104, 105, 110, 100]⟩, ⟨#[]⟩, 0⟩
theorem other_spec : FnSpec C 48 [] [] (fun r L' => r = encC otherC ∧ L' = []) := by
  refine FnSpec.start C_ok Tryd.func48 rfl rfl Tryd.ntmps48 ?_
  repeat (first | refine Ops.go ?_ | refine And.intro rfl ?_ | refine And.intro (Nat.le_of_ble_eq_true rfl) ?_ | refine And.intro (Int.natCast_nonneg _) ?_ | refine fun (_ : Nat) => ?_ | refine Ord.go ?_ | refine Run.go rfl ?_ | refine Cont.go rfl ?_ | refine OrdP.go ?_)
  exact ⟨_, [], FinOk.drop _ _, rfl, rfl⟩

theorem roomyC_spec (cs : List Ch) (m : Nat) (hm : m ≤ 80) (hc : m ≤ cs.length) : FnSpec C 22 [rdc cs m] []
    (fun r L' => ∃ g Cp, r = .sl 0 g Cp m ∧ L' = [(g, .row 69 4 Cp ((cs.take m ++ [otherC]).map encC))]) := by
  refine FnSpec.start C_ok Tryd.func22 rfl rfl Tryd.ntmps22 ?_
  repeat (first | refine Ops.go ?_ | refine And.intro rfl ?_ | refine And.intro (Nat.le_of_ble_eq_true rfl) ?_ | refine And.intro (Int.natCast_nonneg _) ?_ | refine fun (_ : Nat) => ?_ | refine Ord.go ?_ | refine Run.go rfl ?_ | refine Cont.go rfl ?_ | refine OrdP.go ?_)
  refine ⟨by simp; omega, ?_, ?_⟩
  · intro h
    have hm0 : m = 0 := by have := congrArg List.length h; rw [List.length_take, List.length_map, List.length_nil] at this; omega
    repeat (first | refine Ops.go ?_ | refine And.intro rfl ?_ | refine And.intro (Nat.le_of_ble_eq_true rfl) ?_ | refine And.intro (Int.natCast_nonneg _) ?_ | refine fun (_ : Nat) => ?_ | refine Ord.go ?_ | refine Run.go rfl ?_ | refine Cont.go rfl ?_ | refine OrdP.go ?_)
    refine ACall.ret other_spec ?_
    repeat (first | refine Ops.go ?_ | refine And.intro rfl ?_ | refine And.intro (Nat.le_of_ble_eq_true rfl) ?_ | refine And.intro (Int.natCast_nonneg _) ?_ | refine fun (_ : Nat) => ?_ | refine Ord.go ?_ | refine Run.go rfl ?_ | refine Cont.go rfl ?_ | refine OrdP.go ?_)
    refine ⟨fun h => absurd h (List.cons_ne_nil _ _), fun _ => ?_⟩
    repeat (first | refine Ops.go ?_ | refine And.intro rfl ?_ | refine And.intro (Nat.le_of_ble_eq_true rfl) ?_ | refine And.intro (Int.natCast_nonneg _) ?_ | refine fun (_ : Nat) => ?_ | refine Ord.go ?_ | refine Run.go rfl ?_ | refine Cont.go rfl ?_ | refine OrdP.go ?_)
    refine ⟨show (m : Int) ≤ ((1 : Nat) : Int) by omega, ?_⟩
    repeat (first | refine Ops.go ?_ | refine And.intro rfl ?_ | refine And.intro (Nat.le_of_ble_eq_true rfl) ?_ | refine And.intro (Int.natCast_nonneg _) ?_ | refine fun (_ : Nat) => ?_ | refine Ord.go ?_ | refine Run.go rfl ?_ | refine Cont.go rfl ?_ | refine OrdP.go ?_)
    subst hm0
    exact ⟨.sl 0 _ _ 0, _, FinOk.keep _ [1] (Sub.sl _ 0 _ _ _) (by decide) rfl, _, _, rfl, rfl⟩
  · intro h
    repeat (first | refine Ops.go ?_ | refine And.intro rfl ?_ | refine And.intro (Nat.le_of_ble_eq_true rfl) ?_ | refine And.intro (Int.natCast_nonneg _) ?_ | refine fun (_ : Nat) => ?_ | refine Ord.go ?_ | refine Run.go rfl ?_ | refine Cont.go rfl ?_ | refine OrdP.go ?_)
    refine ACall.ret other_spec ?_
    repeat (first | refine Ops.go ?_ | refine And.intro rfl ?_ | refine And.intro (Nat.le_of_ble_eq_true rfl) ?_ | refine And.intro (Int.natCast_nonneg _) ?_ | refine fun (_ : Nat) => ?_ | refine Ord.go ?_ | refine Run.go rfl ?_ | refine Cont.go rfl ?_ | refine OrdP.go ?_)
    refine ⟨show ((List.take m (List.map encC cs)).length + 1) * 48 ≤ _ by simp; omega, ?_⟩
    repeat (first | refine Ops.go ?_ | refine And.intro rfl ?_ | refine And.intro (Nat.le_of_ble_eq_true rfl) ?_ | refine And.intro (Int.natCast_nonneg _) ?_ | refine fun (_ : Nat) => ?_ | refine Ord.go ?_ | refine Run.go rfl ?_ | refine Cont.go rfl ?_ | refine OrdP.go ?_)
    refine ⟨show (m : Int) ≤ ((_ : Nat) : Int) by rw [List.length_append]; show (m : Int) ≤ (((List.take m (List.map encC cs)).length + 1 : Nat) : Int); simp; omega, ?_⟩
    repeat (first | refine Ops.go ?_ | refine And.intro rfl ?_ | refine And.intro (Nat.le_of_ble_eq_true rfl) ?_ | refine And.intro (Int.natCast_nonneg _) ?_ | refine fun (_ : Nat) => ?_ | refine Ord.go ?_ | refine Run.go rfl ?_ | refine Cont.go rfl ?_ | refine OrdP.go ?_)
    exact ⟨.sl 0 _ _ m, _, FinOk.keep _ [0] (Sub.sl _ 0 _ _ _) (by decide) rfl, _, _, rfl,
      congrArg (fun l => [(_, AObj.row 69 4 _ l)]) (show List.take m (List.map encC cs) ++ [encC otherC] = _ by simp [List.map_take])⟩

theorem setC_mem {P : Ch → Prop} {l : List Ch} {i : Nat} {x : Ch} (h : ∀ y ∈ l, P y) (hx : P x) : ∀ y ∈ l.set i x, P y := fun y hy => by
  rcases List.mem_or_eq_of_mem_set hy with hy | rfl
  · exact h y hy
  · exact hx

theorem turnedC_spec (P : ByteArray → Prop) (g Cp : Nat) (cs : List Ch) (m : Nat) (hc : m ≤ cs.length) (hm : m ≤ 80) (hP : ∀ c ∈ cs, P c.p) :
    FnSpec C 24 [.sl 0 g Cp m] [(g, .row 69 4 Cp (cs.map encC))] (fun r L' => ∃ ws : List Ch, ws.length = cs.length ∧ ws.drop m = cs.drop m ∧ (∀ c ∈ ws, P c.p) ∧
      ((m = 0 ∧ r = .nils ∧ L' = [(g, .row 69 4 Cp (ws.map encC))]) ∨ (0 < m ∧ ∃ g2 C2, r = .sl 1 g2 C2 m ∧ L' = [(g, .row 69 4 Cp (ws.map encC)), (g2, .row 69 4 C2 ((ws.take m).map encC))]))) := by
  refine FnSpec.start C_ok Tryd.func24 rfl rfl Tryd.ntmps24 ?_
  repeat (first | refine Ops.go ?_ | refine And.intro rfl ?_ | refine And.intro (Nat.le_of_ble_eq_true rfl) ?_ | refine And.intro (Int.natCast_nonneg _) ?_ | refine fun (_ : Nat) => ?_ | refine Ord.go ?_ | refine Run.go rfl ?_ | refine Cont.go rfl ?_ | refine OrdP.go ?_)
  refine Run.loop (fun k env L => ∃ (i : Nat) (ws : List Ch), k = m - i ∧ i ≤ m ∧ ws.length = cs.length ∧ ws.drop m = cs.drop m ∧ (∀ c ∈ ws, P c.p) ∧ env = [.sl 0 g Cp m, .junk, .junk, .int .i64 i, .junk, .junk, .junk, .junk, .junk, .junk, .junk, .junk, .junk, .junk, .junk, .junk, .junk, .junk, .junk, .junk, .junk, .junk, .junk, .junk, .junk, .junk, .junk, .junk, .junk, .junk, .junk, .junk, .junk, .junk, .junk] ∧ L = [(g, .row 69 4 Cp (ws.map encC))]) m [.sl 0 g Cp m, .junk, .junk, .int .i64 (0 : Nat), .junk, .junk, .junk, .junk, .junk, .junk, .junk, .junk, .junk, .junk, .junk, .junk, .junk, .junk, .junk, .junk, .junk, .junk, .junk, .junk, .junk, .junk, .junk, .junk, .junk, .junk, .junk, .junk, .junk, .junk, .junk] ?_ ⟨0, cs, by omega, by omega, rfl, rfl, hP, rfl, rfl⟩ ?_
  · repeat (first | exact trivial | refine ⟨.inl rfl, ?_⟩ | refine ⟨.inr rfl, ?_⟩)
  rintro k env L ⟨i, ws, rfl, hi, hl, hd, hPw, rfl, rfl⟩
  repeat (first | refine Ops.go ?_ | refine And.intro rfl ?_ | refine And.intro (Nat.le_of_ble_eq_true rfl) ?_ | refine And.intro (Int.natCast_nonneg _) ?_ | refine fun (_ : Nat) => ?_ | refine Ord.go ?_ | refine Run.go rfl ?_ | refine Cont.go rfl ?_ | refine OrdP.go ?_)
  refine ⟨fun h => ?_, fun h => ?_⟩
  · have h : (i : Int) < (m : Int) := h
    have him : i < m := by omega
    obtain ⟨x, ex⟩ : ∃ x, ws[i]? = some x := ⟨ws[i], List.getElem?_eq_getElem (by omega)⟩
    repeat (first | refine Ops.go ?_ | refine And.intro rfl ?_ | refine And.intro (Nat.le_of_ble_eq_true rfl) ?_ | refine And.intro (Int.natCast_nonneg _) ?_ | refine fun (_ : Nat) => ?_ | refine Ord.go ?_ | refine Run.go rfl ?_ | refine Cont.go rfl ?_ | refine OrdP.go ?_)
    refine ⟨h, ?_⟩
    repeat (first | refine Ops.go ?_ | refine And.intro rfl ?_ | refine And.intro (Nat.le_of_ble_eq_true rfl) ?_ | refine And.intro (Int.natCast_nonneg _) ?_ | refine fun (_ : Nat) => ?_ | refine Ord.go ?_ | refine Run.go rfl ?_ | refine Cont.go rfl ?_ | refine OrdP.go ?_)
    refine ⟨encC x, encC_at _ _ _ ex, ?_⟩
    repeat (first | refine Ops.go ?_ | refine And.intro rfl ?_ | refine And.intro (Nat.le_of_ble_eq_true rfl) ?_ | refine And.intro (Int.natCast_nonneg _) ?_ | refine fun (_ : Nat) => ?_ | refine Ord.go ?_ | refine Run.go rfl ?_ | refine Cont.go rfl ?_ | refine OrdP.go ?_)
    refine ⟨fun hk => ?_, fun hk => ?_⟩
    · repeat (first | refine Ops.go ?_ | refine And.intro rfl ?_ | refine And.intro (Nat.le_of_ble_eq_true rfl) ?_ | refine And.intro (Int.natCast_nonneg _) ?_ | refine fun (_ : Nat) => ?_ | refine Ord.go ?_ | refine Run.go rfl ?_ | refine Cont.go rfl ?_ | refine OrdP.go ?_)
      refine ⟨h, ?_⟩
      repeat (first | refine Ops.go ?_ | refine And.intro rfl ?_ | refine And.intro (Nat.le_of_ble_eq_true rfl) ?_ | refine And.intro (Int.natCast_nonneg _) ?_ | refine fun (_ : Nat) => ?_ | refine Ord.go ?_ | refine Run.go rfl ?_ | refine Cont.go rfl ?_ | refine OrdP.go ?_)
      refine ⟨encC x, encC_at _ _ _ ex, Nat.le_of_ble_eq_true rfl, rfl, ?_⟩
      repeat (first | refine Ops.go ?_ | refine And.intro rfl ?_ | refine And.intro (Nat.le_of_ble_eq_true rfl) ?_ | refine And.intro (Int.natCast_nonneg _) ?_ | refine fun (_ : Nat) => ?_ | refine Ord.go ?_ | refine Run.go rfl ?_ | refine Cont.go rfl ?_ | refine OrdP.go ?_)
      refine ⟨h, ?_⟩
      repeat (first | refine Ops.go ?_ | refine And.intro rfl ?_ | refine And.intro (Nat.le_of_ble_eq_true rfl) ?_ | refine And.intro (Int.natCast_nonneg _) ?_ | refine fun (_ : Nat) => ?_ | refine Ord.go ?_ | refine Run.go rfl ?_ | refine Cont.go rfl ?_ | refine OrdP.go ?_)
      refine ⟨.agg [.int .i64 x.k, .str x.p, .str ⟨#[116, 117, 114, 110, 101, 100]⟩, .int .i64 x.v], ?_, ?_⟩
      · show (List.set (List.map encC ws) i _)[i]? = some _
        rw [List.getElem?_set_self (by simp; omega)]
        rfl
      repeat (first | refine Ops.go ?_ | refine And.intro rfl ?_ | refine And.intro (Nat.le_of_ble_eq_true rfl) ?_ | refine And.intro (Int.natCast_nonneg _) ?_ | refine fun (_ : Nat) => ?_ | refine Ord.go ?_ | refine Run.go rfl ?_ | refine Cont.go rfl ?_ | refine OrdP.go ?_)
      refine ⟨by decide, fun r hr => ?_⟩
      repeat (first | refine Ops.go ?_ | refine And.intro rfl ?_ | refine And.intro (Nat.le_of_ble_eq_true rfl) ?_ | refine And.intro (Int.natCast_nonneg _) ?_ | refine fun (_ : Nat) => ?_ | refine Ord.go ?_ | refine Run.go rfl ?_ | refine Cont.go rfl ?_ | refine OrdP.go ?_)
      refine ⟨h, ?_⟩
      repeat (first | refine Ops.go ?_ | refine And.intro rfl ?_ | refine And.intro (Nat.le_of_ble_eq_true rfl) ?_ | refine And.intro (Int.natCast_nonneg _) ?_ | refine fun (_ : Nat) => ?_ | refine Ord.go ?_ | refine Run.go rfl ?_ | refine Cont.go rfl ?_ | refine OrdP.go ?_)
      refine ⟨.agg [.int .i64 x.k, .str x.p, .str ⟨#[116, 117, 114, 110, 101, 100]⟩, .int .i64 x.v], (by
        show (List.set (List.map encC ws) i _)[i]? = some _
        rw [List.getElem?_set_self (by simp; omega)]
        rfl), Nat.le_of_ble_eq_true rfl, rfl, ?_⟩
      repeat (first | refine Ops.go ?_ | refine And.intro rfl ?_ | refine And.intro (Nat.le_of_ble_eq_true rfl) ?_ | refine And.intro (Int.natCast_nonneg _) ?_ | refine fun (_ : Nat) => ?_ | refine Ord.go ?_ | refine Run.go rfl ?_ | refine Cont.go rfl ?_ | refine OrdP.go ?_)
      refine fun r2 hr2 => ?_
      obtain rfl := add1 hr2 (by omega)
      repeat (first | refine Ops.go ?_ | refine And.intro rfl ?_ | refine And.intro (Nat.le_of_ble_eq_true rfl) ?_ | refine And.intro (Int.natCast_nonneg _) ?_ | refine fun (_ : Nat) => ?_ | refine Ord.go ?_ | refine Run.go rfl ?_ | refine Cont.go rfl ?_ | refine OrdP.go ?_)
      refine Cont.lp ?_
      refine ⟨m - (i + 1), [.sl 0 g Cp m, .junk, .junk, .int .i64 (i + 1 : Nat), .junk, .junk, .junk, .junk, .junk, .junk, .junk, .junk, .junk, .junk, .junk, .junk, .junk, .junk, .junk, .junk, .junk, .junk, .junk, .junk, .junk, .junk, .junk, .junk, .junk, .junk, .junk, .junk, .junk, .junk, .junk], 1, by omega, ?_, ⟨i + 1, ws.set i ⟨x.k, x.p, ⟨#[116, 117, 114, 110, 101, 100]⟩, r⟩, rfl, by omega, by simp [hl], ?_, setC_mem hPw (hPw x (List.mem_of_getElem? ex)), rfl, ?_⟩⟩
      · repeat (first | exact trivial | refine ⟨.inl rfl, ?_⟩ | refine ⟨.inr rfl, ?_⟩)
      · rw [List.drop_set_of_lt him]; exact hd
      · refine congrArg (fun l => [(g, AObj.row 69 4 Cp l)]) ?_
        show ((List.map encC ws).set i _).set i (encC ⟨x.k, x.p, _, r⟩) = _
        rw [List.set_set, List.map_set]
    · repeat (first | refine Ops.go ?_ | refine And.intro rfl ?_ | refine And.intro (Nat.le_of_ble_eq_true rfl) ?_ | refine And.intro (Int.natCast_nonneg _) ?_ | refine fun (_ : Nat) => ?_ | refine Ord.go ?_ | refine Run.go rfl ?_ | refine Cont.go rfl ?_ | refine OrdP.go ?_)
      refine ⟨h, ?_⟩
      repeat (first | refine Ops.go ?_ | refine And.intro rfl ?_ | refine And.intro (Nat.le_of_ble_eq_true rfl) ?_ | refine And.intro (Int.natCast_nonneg _) ?_ | refine fun (_ : Nat) => ?_ | refine Ord.go ?_ | refine Run.go rfl ?_ | refine Cont.go rfl ?_ | refine OrdP.go ?_)
      refine ⟨encC x, encC_at _ _ _ ex, ?_⟩
      repeat (first | refine Ops.go ?_ | refine And.intro rfl ?_ | refine And.intro (Nat.le_of_ble_eq_true rfl) ?_ | refine And.intro (Int.natCast_nonneg _) ?_ | refine fun (_ : Nat) => ?_ | refine Ord.go ?_ | refine Run.go rfl ?_ | refine Cont.go rfl ?_ | refine OrdP.go ?_)
      refine ⟨by decide, fun r hr => ?_⟩
      repeat (first | refine Ops.go ?_ | refine And.intro rfl ?_ | refine And.intro (Nat.le_of_ble_eq_true rfl) ?_ | refine And.intro (Int.natCast_nonneg _) ?_ | refine fun (_ : Nat) => ?_ | refine Ord.go ?_ | refine Run.go rfl ?_ | refine Cont.go rfl ?_ | refine OrdP.go ?_)
      refine ⟨h, ?_⟩
      repeat (first | refine Ops.go ?_ | refine And.intro rfl ?_ | refine And.intro (Nat.le_of_ble_eq_true rfl) ?_ | refine And.intro (Int.natCast_nonneg _) ?_ | refine fun (_ : Nat) => ?_ | refine Ord.go ?_ | refine Run.go rfl ?_ | refine Cont.go rfl ?_ | refine OrdP.go ?_)
      refine ⟨encC x, encC_at _ _ _ ex, Nat.le_of_ble_eq_true rfl, rfl, ?_⟩
      repeat (first | refine Ops.go ?_ | refine And.intro rfl ?_ | refine And.intro (Nat.le_of_ble_eq_true rfl) ?_ | refine And.intro (Int.natCast_nonneg _) ?_ | refine fun (_ : Nat) => ?_ | refine Ord.go ?_ | refine Run.go rfl ?_ | refine Cont.go rfl ?_ | refine OrdP.go ?_)
      refine fun r2 hr2 => ?_
      obtain rfl := add1 hr2 (by omega)
      repeat (first | refine Ops.go ?_ | refine And.intro rfl ?_ | refine And.intro (Nat.le_of_ble_eq_true rfl) ?_ | refine And.intro (Int.natCast_nonneg _) ?_ | refine fun (_ : Nat) => ?_ | refine Ord.go ?_ | refine Run.go rfl ?_ | refine Cont.go rfl ?_ | refine OrdP.go ?_)
      refine Cont.lp ?_
      refine ⟨m - (i + 1), [.sl 0 g Cp m, .junk, .junk, .int .i64 (i + 1 : Nat), .junk, .junk, .junk, .junk, .junk, .junk, .junk, .junk, .junk, .junk, .junk, .junk, .junk, .junk, .junk, .junk, .junk, .junk, .junk, .junk, .junk, .junk, .junk, .junk, .junk, .junk, .junk, .junk, .junk, .junk, .junk], 1, by omega, ?_, ⟨i + 1, ws.set i ⟨x.k, x.p, x.d, r⟩, rfl, by omega, by simp [hl], ?_, setC_mem hPw (hPw x (List.mem_of_getElem? ex)), rfl, ?_⟩⟩
      · repeat (first | exact trivial | refine ⟨.inl rfl, ?_⟩ | refine ⟨.inr rfl, ?_⟩)
      · rw [List.drop_set_of_lt him]; exact hd
      · refine congrArg (fun l => [(g, AObj.row 69 4 Cp l)]) ?_
        show (List.map encC ws).set i (encC ⟨x.k, x.p, x.d, r⟩) = _
        rw [List.map_set]
  · have h : ¬ (i : Int) < (m : Int) := h
    obtain rfl : i = m := by omega
    repeat (first | refine Ops.go ?_ | refine And.intro rfl ?_ | refine And.intro (Nat.le_of_ble_eq_true rfl) ?_ | refine And.intro (Int.natCast_nonneg _) ?_ | refine fun (_ : Nat) => ?_ | refine Ord.go ?_ | refine Run.go rfl ?_ | refine Cont.go rfl ?_ | refine OrdP.go ?_)
    refine ⟨show i ≤ (List.map encC ws).length by simp; omega, ?_⟩
    repeat (first | refine Ops.go ?_ | refine And.intro rfl ?_ | refine And.intro (Nat.le_of_ble_eq_true rfl) ?_ | refine And.intro (Int.natCast_nonneg _) ?_ | refine fun (_ : Nat) => ?_ | refine Ord.go ?_ | refine Run.go rfl ?_ | refine Cont.go rfl ?_ | refine OrdP.go ?_)
    refine ⟨by simp; omega, fun h => ?_, fun h => ?_⟩
    · have hn0 : i = 0 := by have := congrArg List.length h; rw [List.length_take, List.length_map, List.length_nil] at this; omega
      repeat (first | refine Ops.go ?_ | refine And.intro rfl ?_ | refine And.intro (Nat.le_of_ble_eq_true rfl) ?_ | refine And.intro (Int.natCast_nonneg _) ?_ | refine fun (_ : Nat) => ?_ | refine Ord.go ?_ | refine Run.go rfl ?_ | refine Cont.go rfl ?_ | refine OrdP.go ?_)
      exact ⟨_, _, FinOk.keep _ [0] (Sub.refl _) (by decide) rfl, ws, hl, hd, hPw, .inl ⟨hn0, rfl, rfl⟩⟩
    · have hn0 : 0 < i := by
        rcases Nat.eq_zero_or_pos i with e | e
        · subst e; exact absurd rfl h
        · exact e
      repeat (first | refine Ops.go ?_ | refine And.intro rfl ?_ | refine And.intro (Nat.le_of_ble_eq_true rfl) ?_ | refine And.intro (Int.natCast_nonneg _) ?_ | refine fun (_ : Nat) => ?_ | refine Ord.go ?_ | refine Run.go rfl ?_ | refine Cont.go rfl ?_ | refine OrdP.go ?_)
      refine ⟨.sl 1 _ _ i, _, FinOk.keep _ [0, 1] ?_ (by decide) rfl, ws, hl, hd, hPw, .inr ⟨hn0, _, _, rfl, congrArg (fun l => [_, (_, AObj.row 69 4 _ l)]) (List.map_take ..).symm⟩⟩
      have e : (List.take i (List.map encC ws)).length = i := by simp; omega
      show Sub (.sl _ _ _ (List.take i (List.map encC ws)).length) _
      rw [e]
      exact Sub.sl _ _ _ _ _

theorem same_trueC (xs ys : List Ch) (n m : Nat) (hx : n ≤ xs.length) (hy : m ≤ ys.length) (hn : n ≤ 1000) (h : xs.take n = ys.take m) : FnSpec C 37 [rdc xs n, rdc ys m] [] (fun r L' => r = .bool true ∧ L' = []) :=
  let s := sameChanges_spec xs ys n m hx hy hn
  ⟨s.1, fun imm w vs hG hs hl hv => (s.2 imm w vs hG hs hl hv).mono fun _ _ ⟨v, r, L', imm', a, b, c, d, q⟩ => ⟨v, r, L', imm', a, b, c, d, q.1 h, q.2.2⟩⟩

theorem untouchedC_spec (xs ys : List Ch) (n : Nat) (hx : n + 1 ≤ xs.length) (hy : n ≤ ys.length) (hn : n ≤ 1000) (h : xs.take n = ys.take n) (ho : xs[n]? = some otherC) :
    FnSpec C 50 [rdc xs n, rdc ys n] [] (fun r L' => r = .bool true ∧ L' = []) := by
  refine FnSpec.start C_ok Tryd.func50 rfl rfl Tryd.ntmps50 ?_
  repeat (first | refine Ops.go ?_ | refine And.intro rfl ?_ | refine And.intro (Nat.le_of_ble_eq_true rfl) ?_ | refine And.intro (Int.natCast_nonneg _) ?_ | refine fun (_ : Nat) => ?_ | refine Ord.go ?_ | refine Run.go rfl ?_ | refine Cont.go rfl ?_ | refine OrdP.go ?_)
  refine fun r hr => ?_
  obtain rfl := add1 hr (by omega)
  repeat (first | refine Ops.go ?_ | refine And.intro rfl ?_ | refine And.intro (Nat.le_of_ble_eq_true rfl) ?_ | refine And.intro (Int.natCast_nonneg _) ?_ | refine fun (_ : Nat) => ?_ | refine Ord.go ?_ | refine Run.go rfl ?_ | refine Cont.go rfl ?_ | refine OrdP.go ?_)
  refine ⟨show ((n + 1 : Nat) : Int) ≤ ((List.map encC xs).length : Int) by simp; omega, ?_⟩
  repeat (first | refine Ops.go ?_ | refine And.intro rfl ?_ | refine And.intro (Nat.le_of_ble_eq_true rfl) ?_ | refine And.intro (Int.natCast_nonneg _) ?_ | refine fun (_ : Nat) => ?_ | refine Ord.go ?_ | refine Run.go rfl ?_ | refine Cont.go rfl ?_ | refine OrdP.go ?_)
  refine Run.drawn true [0, 1, 2, 3, 4, 5, 6, 7, 8, 9, 10, 11, 12] (by kernel_rfl) ?_
  repeat (first | refine Ops.go ?_ | refine And.intro rfl ?_ | refine And.intro (Nat.le_of_ble_eq_true rfl) ?_ | refine And.intro (Int.natCast_nonneg _) ?_ | refine fun (_ : Nat) => ?_ | refine Ord.go ?_ | refine Run.go rfl ?_ | refine Cont.go rfl ?_ | refine OrdP.go ?_)
  refine ACallQ.ret (same_trueC xs ys n n (by omega) hy hn h) ?_
  repeat (first | refine Ops.go ?_ | refine And.intro rfl ?_ | refine And.intro (Nat.le_of_ble_eq_true rfl) ?_ | refine And.intro (Int.natCast_nonneg _) ?_ | refine fun (_ : Nat) => ?_ | refine Ord.go ?_ | refine Run.go rfl ?_ | refine Cont.go rfl ?_ | refine OrdP.go ?_)
  refine ⟨show (n : Int) < (((n + 1 : Nat) : Int) - 0).toNat by omega, encC otherC, by simpa using encC_at _ _ _ ho, ?_⟩
  repeat (first | refine Ops.go ?_ | refine And.intro rfl ?_ | refine And.intro (Nat.le_of_ble_eq_true rfl) ?_ | refine And.intro (Int.natCast_nonneg _) ?_ | refine fun (_ : Nat) => ?_ | refine Ord.go ?_ | refine Run.go rfl ?_ | refine Cont.go rfl ?_ | refine OrdP.go ?_)
  refine ACallQ.ret other_spec ?_
  repeat (first | refine Ops.go ?_ | refine And.intro rfl ?_ | refine And.intro (Nat.le_of_ble_eq_true rfl) ?_ | refine And.intro (Int.natCast_nonneg _) ?_ | refine fun (_ : Nat) => ?_ | refine Ord.go ?_ | refine Run.go rfl ?_ | refine Cont.go rfl ?_ | refine OrdP.go ?_)
  refine ⟨fun h => ?_, fun h => ?_⟩
  · repeat (first | refine Ops.go ?_ | refine And.intro rfl ?_ | refine And.intro (Nat.le_of_ble_eq_true rfl) ?_ | refine And.intro (Int.natCast_nonneg _) ?_ | refine fun (_ : Nat) => ?_ | refine Ord.go ?_ | refine Run.go rfl ?_ | refine Cont.go rfl ?_ | refine OrdP.go ?_)
    exact ⟨_, [], FinOk.drop _ _, rfl, rfl⟩
  · exact absurd ((ch_eq _ _).2 rfl) h
end Go.Proofs.YtfohedaadncefaaDoor.HBT
/- The contract of the law's helper that puts other nodes in a list's place. -/
namespace Go.Proofs.YtfohedaadncefaaDoor.HBT
open Go Go.Proofs.YtfohedaadncefaaDoor.HB Go.RowKit
set_option maxRecDepth 8000

theorem set_mem {P : Sn → Prop} {l : List Sn} {i : Nat} {x : Sn} (h : ∀ y ∈ l, P y) (hx : P x) : ∀ y ∈ l.set i x, P y := fun y hy => by
  rcases List.mem_or_eq_of_mem_set hy with hy | rfl
  · exact h y hy
  · exact hx

theorem turned_spec (way : Int) (P : ByteArray → Prop) (st : Int) (pl : ByteArray) (kd : Int) (g Cp : Nat) (xs : List Sn) (n : Nat) (hx : n ≤ xs.length) (hn : n ≤ 70) (hPs : ∀ x ∈ xs, P x.p) :
    FnSpec C 11 [shot st pl kd (.sl 0 g Cp n), .int .i64 way] [(g, .row 50 3 Cp (xs.map enc))] (fun r L' => ∃ ws : List Sn, ws.length = xs.length ∧ ws.drop n = xs.drop n ∧ (∀ x ∈ ws, P x.p) ∧
      ((n = 0 ∧ r = shot st pl kd .nils ∧ L' = [(g, .row 50 3 Cp (ws.map enc))]) ∨ (0 < n ∧ ∃ g2 C2, r = shot st pl kd (.sl 1 g2 C2 n) ∧ L' = [(g, .row 50 3 Cp (ws.map enc)), (g2, .row 50 3 C2 ((ws.take n).map enc))]))) := by
  refine FnSpec.start C_ok Tryd.func11 rfl rfl Tryd.ntmps11 ?_
  repeat (first | refine Ops.go ?_ | refine And.intro rfl ?_ | refine And.intro (Nat.le_of_ble_eq_true rfl) ?_ | refine And.intro (Int.natCast_nonneg _) ?_ | refine Ord.go ?_ | refine Run.go rfl ?_ | refine Cont.go rfl ?_ | refine OrdP.go ?_)
  refine fun g1 => ?_
  repeat (first | refine Ops.go ?_ | refine And.intro rfl ?_ | refine And.intro (Nat.le_of_ble_eq_true rfl) ?_ | refine And.intro (Int.natCast_nonneg _) ?_ | refine Ord.go ?_ | refine Run.go rfl ?_ | refine Cont.go rfl ?_ | refine OrdP.go ?_)
  refine fun g2 => ?_
  repeat (first | refine Ops.go ?_ | refine And.intro rfl ?_ | refine And.intro (Nat.le_of_ble_eq_true rfl) ?_ | refine And.intro (Int.natCast_nonneg _) ?_ | refine fun (_ : Nat) => ?_ | refine Ord.go ?_ | refine Run.go rfl ?_ | refine Cont.go rfl ?_ | refine OrdP.go ?_)
  refine Run.loop (fun k env L => ∃ (i : Nat) (ws : List Sn), k = n - i ∧ i ≤ n ∧ ws.length = xs.length ∧ ws.drop n = xs.drop n ∧ (∀ x ∈ ws, P x.p) ∧ env = [.junk, .int .i64 way, .ptr 1 g1 0, .junk, .ptr 2 g2 0, .int .i64 n, .int .i64 i, .junk, .junk, .junk, .junk, .junk, .junk, .junk, .junk, .junk, .junk, .junk, .junk, .junk, .junk, .junk, .junk, .junk, .junk, .junk, .junk, .junk, .junk, .junk, .junk, .junk, .junk, .junk, .junk, .junk, .junk, .junk, .junk, .junk, .junk, .junk, .junk, .junk, .junk, .junk, .junk, .junk, .junk, .junk, .junk, .junk, .junk, .junk, .junk, .junk, .junk, .junk, .junk, .junk, .junk, .junk, .junk, .junk, .junk, .junk, .junk, .junk, .junk, .junk, .junk] ∧ L = [(g, .row 50 3 Cp (ws.map enc)), (g1, .cells 24 [.int .i64 st, .str pl, .int .i64 kd, .sl 0 g Cp n]), (g2, .cells 24 [.int .i64 0, .str ⟨#[]⟩, .int .i64 0, .nils])]) n [.junk, .int .i64 way, .ptr 1 g1 0, .junk, .ptr 2 g2 0, .int .i64 n, .int .i64 0, .junk, .junk, .junk, .junk, .junk, .junk, .junk, .junk, .junk, .junk, .junk, .junk, .junk, .junk, .junk, .junk, .junk, .junk, .junk, .junk, .junk, .junk, .junk, .junk, .junk, .junk, .junk, .junk, .junk, .junk, .junk, .junk, .junk, .junk, .junk, .junk, .junk, .junk, .junk, .junk, .junk, .junk, .junk, .junk, .junk, .junk, .junk, .junk, .junk, .junk, .junk, .junk, .junk, .junk, .junk, .junk, .junk, .junk, .junk, .junk, .junk, .junk, .junk, .junk] ?_ ⟨0, xs, by omega, by omega, rfl, rfl, hPs, rfl, rfl⟩ ?_
  · repeat (first | exact trivial | refine ⟨.inl rfl, ?_⟩ | refine ⟨.inr rfl, ?_⟩)
  rintro k env L ⟨i, ws, rfl, hi, hl, hd, hPw, rfl, rfl⟩
  have rnd : ∀ (ws' : List Sn), ws'.length = xs.length → ws'.drop n = xs.drop n → (∀ x ∈ ws', P x.p) → True := fun _ _ _ _ => trivial
  repeat (first | refine Ops.go ?_ | refine And.intro rfl ?_ | refine And.intro (Nat.le_of_ble_eq_true rfl) ?_ | refine And.intro (Int.natCast_nonneg _) ?_ | refine fun (_ : Nat) => ?_ | refine Ord.go ?_ | refine Run.go rfl ?_ | refine Cont.go rfl ?_ | refine OrdP.go ?_)
  refine ⟨fun h => ?_, fun h => ?_⟩
  · have h : (i : Int) < (n : Int) := h
    have hin : i < n := by omega
    repeat (first | refine Ops.go ?_ | refine And.intro rfl ?_ | refine And.intro (Nat.le_of_ble_eq_true rfl) ?_ | refine And.intro (Int.natCast_nonneg _) ?_ | refine fun (_ : Nat) => ?_ | refine Ord.go ?_ | refine Run.go rfl ?_ | refine Cont.go rfl ?_ | refine OrdP.go ?_)
    refine ⟨fun hw => ?_, fun hw => ?_⟩
    · have hw : way = 1 := hw
      repeat (first | refine Ops.go ?_ | refine And.intro rfl ?_ | refine And.intro (Nat.le_of_ble_eq_true rfl) ?_ | refine And.intro (Int.natCast_nonneg _) ?_ | refine fun (_ : Nat) => ?_ | refine Ord.go ?_ | refine Run.go rfl ?_ | refine Cont.go rfl ?_ | refine OrdP.go ?_)
      refine fun r hr => ?_
      obtain rfl : r = ((n - 1 : Nat) : Int) := by rw [hr, IntKind.wrap_i64]; omega
      repeat (first | refine Ops.go ?_ | refine And.intro rfl ?_ | refine And.intro (Nat.le_of_ble_eq_true rfl) ?_ | refine And.intro (Int.natCast_nonneg _) ?_ | refine fun (_ : Nat) => ?_ | refine Ord.go ?_ | refine Run.go rfl ?_ | refine Cont.go rfl ?_ | refine OrdP.go ?_)
      refine fun r hr => ?_
      obtain ⟨m, rfl, hm⟩ : ∃ m : Nat, r = (m : Int) ∧ m + 1 + i = n := ⟨n - 1 - i, by rw [hr, IntKind.wrap_i64]; omega, by omega⟩
      repeat (first | refine Ops.go ?_ | refine And.intro rfl ?_ | refine And.intro (Nat.le_of_ble_eq_true rfl) ?_ | refine And.intro (Int.natCast_nonneg _) ?_ | refine fun (_ : Nat) => ?_ | refine Ord.go ?_ | refine Run.go rfl ?_ | refine Cont.go rfl ?_ | refine OrdP.go ?_)
      refine ⟨fun hl2 => ?_, fun hl2 => ?_⟩
      · have hl2 : (i : Int) < (m : Int) := hl2
        obtain ⟨x, ex⟩ : ∃ x, ws[i]? = some x := ⟨ws[i], List.getElem?_eq_getElem (by omega)⟩
        obtain ⟨y, ey⟩ : ∃ y, ws[m]? = some y := ⟨ws[m], List.getElem?_eq_getElem (by omega)⟩
        repeat (first | refine Ops.go ?_ | refine And.intro rfl ?_ | refine And.intro (Nat.le_of_ble_eq_true rfl) ?_ | refine And.intro (Int.natCast_nonneg _) ?_ | refine fun (_ : Nat) => ?_ | refine Ord.go ?_ | refine Run.go rfl ?_ | refine Cont.go rfl ?_ | refine OrdP.go ?_)
        refine ⟨h, ?_⟩
        repeat (first | refine Ops.go ?_ | refine And.intro rfl ?_ | refine And.intro (Nat.le_of_ble_eq_true rfl) ?_ | refine And.intro (Int.natCast_nonneg _) ?_ | refine fun (_ : Nat) => ?_ | refine Ord.go ?_ | refine Run.go rfl ?_ | refine Cont.go rfl ?_ | refine OrdP.go ?_)
        refine ⟨enc x, enc_at _ _ _ ex, ?_⟩
        repeat (first | refine Ops.go ?_ | refine And.intro rfl ?_ | refine And.intro (Nat.le_of_ble_eq_true rfl) ?_ | refine And.intro (Int.natCast_nonneg _) ?_ | refine fun (_ : Nat) => ?_ | refine Ord.go ?_ | refine Run.go rfl ?_ | refine Cont.go rfl ?_ | refine OrdP.go ?_)
        refine Run.drawnW [12] [0, 1, 2, 3, 4, 5, 6, 7, 8, 9, 10, 11] (by kernel_rfl) ?_
        repeat (first | refine Ops.go ?_ | refine And.intro rfl ?_ | refine And.intro (Nat.le_of_ble_eq_true rfl) ?_ | refine And.intro (Int.natCast_nonneg _) ?_ | refine fun (_ : Nat) => ?_ | refine Ord.go ?_ | refine Run.go rfl ?_ | refine Cont.go rfl ?_ | refine OrdP.go ?_)
        refine fun r hr => ?_
        obtain rfl : r = ((n - 1 : Nat) : Int) := by rw [hr, IntKind.wrap_i64]; omega
        repeat (first | refine Ops.go ?_ | refine And.intro rfl ?_ | refine And.intro (Nat.le_of_ble_eq_true rfl) ?_ | refine And.intro (Int.natCast_nonneg _) ?_ | refine fun (_ : Nat) => ?_ | refine Ord.go ?_ | refine Run.go rfl ?_ | refine Cont.go rfl ?_ | refine OrdP.go ?_)
        refine fun r hr => ?_
        obtain rfl : r = (m : Int) := by rw [hr, IntKind.wrap_i64]; omega
        repeat (first | refine Ops.go ?_ | refine And.intro rfl ?_ | refine And.intro (Nat.le_of_ble_eq_true rfl) ?_ | refine And.intro (Int.natCast_nonneg _) ?_ | refine fun (_ : Nat) => ?_ | refine Ord.go ?_ | refine Run.go rfl ?_ | refine Cont.go rfl ?_ | refine OrdP.go ?_)
        refine ⟨show (m : Int) < (n : Int) by omega, ?_⟩
        repeat (first | refine Ops.go ?_ | refine And.intro rfl ?_ | refine And.intro (Nat.le_of_ble_eq_true rfl) ?_ | refine And.intro (Int.natCast_nonneg _) ?_ | refine fun (_ : Nat) => ?_ | refine Ord.go ?_ | refine Run.go rfl ?_ | refine Cont.go rfl ?_ | refine OrdP.go ?_)
        refine ⟨enc y, enc_at _ _ _ ey, ?_⟩
        repeat (first | refine Ops.go ?_ | refine And.intro rfl ?_ | refine And.intro (Nat.le_of_ble_eq_true rfl) ?_ | refine And.intro (Int.natCast_nonneg _) ?_ | refine fun (_ : Nat) => ?_ | refine Ord.go ?_ | refine Run.go rfl ?_ | refine Cont.go rfl ?_ | refine OrdP.go ?_)
        refine ⟨h, ?_⟩
        repeat (first | refine Ops.go ?_ | refine And.intro rfl ?_ | refine And.intro (Nat.le_of_ble_eq_true rfl) ?_ | refine And.intro (Int.natCast_nonneg _) ?_ | refine fun (_ : Nat) => ?_ | refine Ord.go ?_ | refine Run.go rfl ?_ | refine Cont.go rfl ?_ | refine OrdP.go ?_)
        refine ⟨enc x, enc_at _ _ _ ex, Nat.le_of_ble_eq_true rfl, rfl, ?_⟩
        repeat (first | refine Ops.go ?_ | refine And.intro rfl ?_ | refine And.intro (Nat.le_of_ble_eq_true rfl) ?_ | refine And.intro (Int.natCast_nonneg _) ?_ | refine fun (_ : Nat) => ?_ | refine Ord.go ?_ | refine Run.go rfl ?_ | refine Cont.go rfl ?_ | refine OrdP.go ?_)
        refine fun r hr => ?_
        obtain rfl : r = ((n - 1 : Nat) : Int) := by rw [hr, IntKind.wrap_i64]; omega
        repeat (first | refine Ops.go ?_ | refine And.intro rfl ?_ | refine And.intro (Nat.le_of_ble_eq_true rfl) ?_ | refine And.intro (Int.natCast_nonneg _) ?_ | refine fun (_ : Nat) => ?_ | refine Ord.go ?_ | refine Run.go rfl ?_ | refine Cont.go rfl ?_ | refine OrdP.go ?_)
        refine fun r hr => ?_
        obtain rfl : r = (m : Int) := by rw [hr, IntKind.wrap_i64]; omega
        repeat (first | refine Ops.go ?_ | refine And.intro rfl ?_ | refine And.intro (Nat.le_of_ble_eq_true rfl) ?_ | refine And.intro (Int.natCast_nonneg _) ?_ | refine fun (_ : Nat) => ?_ | refine Ord.go ?_ | refine Run.go rfl ?_ | refine Cont.go rfl ?_ | refine OrdP.go ?_)
        refine ⟨show (m : Int) < (n : Int) by omega, ?_⟩
        repeat (first | refine Ops.go ?_ | refine And.intro rfl ?_ | refine And.intro (Nat.le_of_ble_eq_true rfl) ?_ | refine And.intro (Int.natCast_nonneg _) ?_ | refine fun (_ : Nat) => ?_ | refine Ord.go ?_ | refine Run.go rfl ?_ | refine Cont.go rfl ?_ | refine OrdP.go ?_)
        refine ⟨enc y, ?_, Nat.le_of_ble_eq_true rfl, rfl, ?_⟩
        · show (List.set (List.map enc ws) i _)[m]? = some _
          rw [List.getElem?_set_ne (by omega)]
          exact enc_at _ _ _ ey
        repeat (first | refine Ops.go ?_ | refine And.intro rfl ?_ | refine And.intro (Nat.le_of_ble_eq_true rfl) ?_ | refine And.intro (Int.natCast_nonneg _) ?_ | refine fun (_ : Nat) => ?_ | refine Ord.go ?_ | refine Run.go rfl ?_ | refine Cont.go rfl ?_ | refine OrdP.go ?_)
        refine ⟨fun h => absurd hw h, fun _ => ?_⟩
        repeat (first | refine Ops.go ?_ | refine And.intro rfl ?_ | refine And.intro (Nat.le_of_ble_eq_true rfl) ?_ | refine And.intro (Int.natCast_nonneg _) ?_ | refine fun (_ : Nat) => ?_ | refine Ord.go ?_ | refine Run.go rfl ?_ | refine Cont.go rfl ?_ | refine OrdP.go ?_)
        refine fun r hr => ?_
        obtain rfl := add1 hr (by omega)
        repeat (first | refine Ops.go ?_ | refine And.intro rfl ?_ | refine And.intro (Nat.le_of_ble_eq_true rfl) ?_ | refine And.intro (Int.natCast_nonneg _) ?_ | refine fun (_ : Nat) => ?_ | refine Ord.go ?_ | refine Run.go rfl ?_ | refine Cont.go rfl ?_ | refine OrdP.go ?_)
        refine Cont.lp ?_
        refine ⟨n - (i + 1), [.junk, .int .i64 way, .ptr 1 g1 0, .junk, .ptr 2 g2 0, .int .i64 n, .int .i64 (i + 1 : Nat), .junk, .junk, .junk, .junk, .junk, .junk, .junk, .junk, .junk, .junk, .junk, .junk, .junk, .junk, .junk, .junk, .junk, .junk, .junk, .junk, .junk, .junk, .junk, .junk, .junk, .junk, .junk, .junk, .junk, .junk, .junk, .junk, .junk, .junk, .junk, .junk, .junk, .junk, .junk, .junk, .junk, .junk, .junk, .junk, .junk, .junk, .junk, .junk, .junk, .junk, .junk, .junk, .junk, .junk, .junk, .junk, .junk, .junk, .junk, .junk, .junk, .junk, .junk, .junk], 3, by omega, ?_, ⟨i + 1, (ws.set i y).set m x, rfl, by omega, by simp [hl], ?_, set_mem (set_mem hPw (hPw y (List.mem_of_getElem? ey))) (hPw x (List.mem_of_getElem? ex)), rfl, ?_⟩⟩
        · repeat (first | exact trivial | refine ⟨.inl rfl, ?_⟩ | refine ⟨.inr rfl, ?_⟩)
        · rw [List.drop_set_of_lt (by omega), List.drop_set_of_lt hin]; exact hd
        · refine congrArg (fun l => [(g, AObj.row 50 3 Cp l), _, _]) ?_
          show ((List.map enc ws).set i (enc y)).set m (enc x) = _
          rw [List.map_set, List.map_set]
      · repeat (first | refine Ops.go ?_ | refine And.intro rfl ?_ | refine And.intro (Nat.le_of_ble_eq_true rfl) ?_ | refine And.intro (Int.natCast_nonneg _) ?_ | refine fun (_ : Nat) => ?_ | refine Ord.go ?_ | refine Run.go rfl ?_ | refine Cont.go rfl ?_ | refine OrdP.go ?_)
        refine ⟨fun h => absurd hw h, fun _ => ?_⟩
        repeat (first | refine Ops.go ?_ | refine And.intro rfl ?_ | refine And.intro (Nat.le_of_ble_eq_true rfl) ?_ | refine And.intro (Int.natCast_nonneg _) ?_ | refine fun (_ : Nat) => ?_ | refine Ord.go ?_ | refine Run.go rfl ?_ | refine Cont.go rfl ?_ | refine OrdP.go ?_)
        refine fun r hr => ?_
        obtain rfl := add1 hr (by omega)
        repeat (first | refine Ops.go ?_ | refine And.intro rfl ?_ | refine And.intro (Nat.le_of_ble_eq_true rfl) ?_ | refine And.intro (Int.natCast_nonneg _) ?_ | refine fun (_ : Nat) => ?_ | refine Ord.go ?_ | refine Run.go rfl ?_ | refine Cont.go rfl ?_ | refine OrdP.go ?_)
        refine Cont.lp ?_
        refine ⟨n - (i + 1), [.junk, .int .i64 way, .ptr 1 g1 0, .junk, .ptr 2 g2 0, .int .i64 n, .int .i64 (i + 1 : Nat), .junk, .junk, .junk, .junk, .junk, .junk, .junk, .junk, .junk, .junk, .junk, .junk, .junk, .junk, .junk, .junk, .junk, .junk, .junk, .junk, .junk, .junk, .junk, .junk, .junk, .junk, .junk, .junk, .junk, .junk, .junk, .junk, .junk, .junk, .junk, .junk, .junk, .junk, .junk, .junk, .junk, .junk, .junk, .junk, .junk, .junk, .junk, .junk, .junk, .junk, .junk, .junk, .junk, .junk, .junk, .junk, .junk, .junk, .junk, .junk, .junk, .junk, .junk, .junk], 3, by omega, ?_, ⟨i + 1, ws, rfl, by omega, hl, hd, hPw, rfl, rfl⟩⟩
        · repeat (first | exact trivial | refine ⟨.inl rfl, ?_⟩ | refine ⟨.inr rfl, ?_⟩)
    · have hw : way ≠ 1 := hw
      repeat (first | refine Ops.go ?_ | refine And.intro rfl ?_ | refine And.intro (Nat.le_of_ble_eq_true rfl) ?_ | refine And.intro (Int.natCast_nonneg _) ?_ | refine fun (_ : Nat) => ?_ | refine Ord.go ?_ | refine Run.go rfl ?_ | refine Cont.go rfl ?_ | refine OrdP.go ?_)
      refine ⟨fun _ => ?_, fun h => absurd hw h⟩
      obtain ⟨x, ex⟩ : ∃ x, ws[i]? = some x := ⟨ws[i], List.getElem?_eq_getElem (by omega)⟩
      repeat (first | refine Ops.go ?_ | refine And.intro rfl ?_ | refine And.intro (Nat.le_of_ble_eq_true rfl) ?_ | refine And.intro (Int.natCast_nonneg _) ?_ | refine fun (_ : Nat) => ?_ | refine Ord.go ?_ | refine Run.go rfl ?_ | refine Cont.go rfl ?_ | refine OrdP.go ?_)
      refine ⟨h, ?_⟩
      repeat (first | refine Ops.go ?_ | refine And.intro rfl ?_ | refine And.intro (Nat.le_of_ble_eq_true rfl) ?_ | refine And.intro (Int.natCast_nonneg _) ?_ | refine fun (_ : Nat) => ?_ | refine Ord.go ?_ | refine Run.go rfl ?_ | refine Cont.go rfl ?_ | refine OrdP.go ?_)
      refine ⟨enc x, enc_at _ _ _ ex, Nat.le_of_ble_eq_true rfl, rfl, ?_⟩
      repeat (first | refine Ops.go ?_ | refine And.intro rfl ?_ | refine And.intro (Nat.le_of_ble_eq_true rfl) ?_ | refine And.intro (Int.natCast_nonneg _) ?_ | refine fun (_ : Nat) => ?_ | refine Ord.go ?_ | refine Run.go rfl ?_ | refine Cont.go rfl ?_ | refine OrdP.go ?_)
      refine ⟨h, ?_⟩
      repeat (first | refine Ops.go ?_ | refine And.intro rfl ?_ | refine And.intro (Nat.le_of_ble_eq_true rfl) ?_ | refine And.intro (Int.natCast_nonneg _) ?_ | refine fun (_ : Nat) => ?_ | refine Ord.go ?_ | refine Run.go rfl ?_ | refine Cont.go rfl ?_ | refine OrdP.go ?_)
      refine ⟨.agg [.str x.p, .str ⟨#[116, 117, 114, 110, 101, 100]⟩, .int .i64 x.v], ?_, Nat.le_of_ble_eq_true rfl, rfl, ?_⟩
      · show (List.set (List.map enc ws) i _)[i]? = some _
        rw [List.getElem?_set_self (by simp; omega)]
        rfl
      repeat (first | refine Ops.go ?_ | refine And.intro rfl ?_ | refine And.intro (Nat.le_of_ble_eq_true rfl) ?_ | refine And.intro (Int.natCast_nonneg _) ?_ | refine fun (_ : Nat) => ?_ | refine Ord.go ?_ | refine Run.go rfl ?_ | refine Cont.go rfl ?_ | refine OrdP.go ?_)
      refine fun r hr => ?_
      obtain rfl := add1 hr (by omega)
      repeat (first | refine Ops.go ?_ | refine And.intro rfl ?_ | refine And.intro (Nat.le_of_ble_eq_true rfl) ?_ | refine And.intro (Int.natCast_nonneg _) ?_ | refine fun (_ : Nat) => ?_ | refine Ord.go ?_ | refine Run.go rfl ?_ | refine Cont.go rfl ?_ | refine OrdP.go ?_)
      refine Cont.lp ?_
      refine ⟨n - (i + 1), [.junk, .int .i64 way, .ptr 1 g1 0, .junk, .ptr 2 g2 0, .int .i64 n, .int .i64 (i + 1 : Nat), .junk, .junk, .junk, .junk, .junk, .junk, .junk, .junk, .junk, .junk, .junk, .junk, .junk, .junk, .junk, .junk, .junk, .junk, .junk, .junk, .junk, .junk, .junk, .junk, .junk, .junk, .junk, .junk, .junk, .junk, .junk, .junk, .junk, .junk, .junk, .junk, .junk, .junk, .junk, .junk, .junk, .junk, .junk, .junk, .junk, .junk, .junk, .junk, .junk, .junk, .junk, .junk, .junk, .junk, .junk, .junk, .junk, .junk, .junk, .junk, .junk, .junk, .junk, .junk], 3, by omega, ?_, ⟨i + 1, ws.set i ⟨x.p, ⟨#[116, 117, 114, 110, 101, 100]⟩, 7⟩, rfl, by omega, by simp [hl], ?_, set_mem hPw (hPw x (List.mem_of_getElem? ex)), rfl, ?_⟩⟩
      · repeat (first | exact trivial | refine ⟨.inl rfl, ?_⟩ | refine ⟨.inr rfl, ?_⟩)
      · rw [List.drop_set_of_lt hin]; exact hd
      · refine congrArg (fun l => [(g, AObj.row 50 3 Cp l), _, _]) ?_
        show ((List.map enc ws).set i _).set i (enc ⟨x.p, _, 7⟩) = _
        rw [List.set_set, List.map_set]
      skip
  · have h : ¬ (i : Int) < (n : Int) := h
    have hin : i = n := by omega
    repeat (first | refine Ops.go ?_ | refine And.intro rfl ?_ | refine And.intro (Nat.le_of_ble_eq_true rfl) ?_ | refine And.intro (Int.natCast_nonneg _) ?_ | refine fun (_ : Nat) => ?_ | refine Ord.go ?_ | refine Run.go rfl ?_ | refine Cont.go rfl ?_ | refine OrdP.go ?_)
    refine ⟨show n ≤ (List.map enc ws).length by simp; omega, ?_⟩
    repeat (first | refine Ops.go ?_ | refine And.intro rfl ?_ | refine And.intro (Nat.le_of_ble_eq_true rfl) ?_ | refine And.intro (Int.natCast_nonneg _) ?_ | refine fun (_ : Nat) => ?_ | refine Ord.go ?_ | refine Run.go rfl ?_ | refine Cont.go rfl ?_ | refine OrdP.go ?_)
    refine ⟨?_, fun h => ?_, fun h => ?_⟩
    · simp; omega
    · have hn0 : n = 0 := by have := congrArg List.length h; rw [List.length_take, List.length_map, List.length_nil] at this; omega
      repeat (first | refine Ops.go ?_ | refine And.intro rfl ?_ | refine And.intro (Nat.le_of_ble_eq_true rfl) ?_ | refine And.intro (Int.natCast_nonneg _) ?_ | refine fun (_ : Nat) => ?_ | refine Ord.go ?_ | refine Run.go rfl ?_ | refine Cont.go rfl ?_ | refine OrdP.go ?_)
      exact ⟨_, _, FinOk.keep _ [0] (Sub.refl _) (by decide) rfl, ws, hl, hd, hPw, .inl ⟨hn0, rfl, rfl⟩⟩
    · have hn0 : 0 < n := by
        rcases Nat.eq_zero_or_pos n with e | e
        · subst e; exact absurd rfl h
        · exact e
      repeat (first | refine Ops.go ?_ | refine And.intro rfl ?_ | refine And.intro (Nat.le_of_ble_eq_true rfl) ?_ | refine And.intro (Int.natCast_nonneg _) ?_ | refine fun (_ : Nat) => ?_ | refine Ord.go ?_ | refine Run.go rfl ?_ | refine Cont.go rfl ?_ | refine OrdP.go ?_)
      refine ⟨shot st pl kd (.sl 1 _ _ n), _, FinOk.keep _ [0, 3] (Sub.aggs ⟨Sub.refl _, Sub.refl _, Sub.refl _, ?_, trivial⟩) (by decide) rfl, ws, hl, hd, hPw, .inr ⟨hn0, _, _, rfl, congrArg (fun l => [_, (_, AObj.row 50 3 _ l)]) (List.map_take ..).symm⟩⟩
      have e : (List.take n (List.map enc ws)).length = n := by simp; omega
      show Sub (.sl _ _ _ (List.take n (List.map enc ws)).length) _
      rw [e]
      exact Sub.sl _ _ _ _ _
end Go.Proofs.YtfohedaadncefaaDoor.HBT
/- The contract of the law's helper that checks one shot both ways, and of the law ShotChecks itself. -/
namespace Go.Proofs.YtfohedaadncefaaDoor.HBT
open Go Go.Proofs.YtfohedaadncefaaDoor.HB Go.RowKit
set_option maxRecDepth 8000

theorem refP_take (st : Int) (pl : ByteArray) (kd : Int) (xs ys : List Sn) (n : Nat) (h : xs.take n = ys.take n) : refP st pl kd xs n → refP st pl kd ys n := by
  have at_ : ∀ i, i < n → xs[i]? = ys[i]? := fun i hi => by
    have := congrArg (·[i]?) h
    simpa only [List.getElem?_take, hi, if_true] using this
  rintro ⟨h1, h2, h3, h4, h5, h6⟩
  refine ⟨h1, h2, h3, h4, h5, fun i x hi ex => ?_⟩
  obtain ⟨k1, k2, k3, k4, k5, k6⟩ := h6 i x hi (by rw [at_ i hi]; exact ex)
  refine ⟨k1, k2, k3, fun h0 => ?_, k5, fun hne => ?_⟩
  · obtain ⟨y, ey, hy⟩ := k4 h0
    exact ⟨y, by rw [← at_ _ (by omega)]; exact ey, hy⟩
  · obtain ⟨k, z, hk, ez, hz⟩ := k6 hne
    exact ⟨k, z, hk, by rw [← at_ _ hk]; exact ez, hz⟩

theorem checks_spec (st : Int) (pl : ByteArray) (kd : Int) (xs ys : List Sn) (n : Nat) (hx : n + 1 ≤ xs.length) (hy : n ≤ ys.length) (hn : n ≤ 70) (hm : xs[n]? = some mark) (h : xs.take n = ys.take n)
    (px : ∀ x ∈ xs, x.p.size ≤ 9223372036854775807) (py : ∀ x ∈ ys, x.p.size ≤ 9223372036854775807) :
    FnSpec C 10 [shot st pl kd (rdo xs n), shot st pl kd (rdo ys n)] [] (fun r L' => r = .bool true ∧ L' = []) := by
  have c1 := check_spec st pl kd xs n (by omega) px
  have c2 := refCheck_spec st pl kd ys n hy py
  have hE : checkE st pl kd xs n = (if refP st pl kd ys n then 0 else 51) := by
    unfold checkE
    by_cases hP : checkP st pl kd xs n
    · rw [if_pos hP, if_pos (refP_take _ _ _ _ _ _ h ((check_ref _ _ _ _ _ (by omega)).1 hP))]
    · rw [if_neg hP, if_neg (fun hr => hP ((check_ref _ _ _ _ _ (by omega)).2 (refP_take _ _ _ _ _ _ h.symm hr)))]
  have c3 := untouched_spec st st pl pl kd kd xs ys n n (by omega) hy (by omega) (by omega) (by omega)
  rw [decide_eq_true (show alikeP st pl kd (xs.take n) st pl kd (ys.take n) ∧ xs[n]? = some mark from ⟨⟨rfl, rfl, rfl, h⟩, hm⟩)] at c3
  refine FnSpec.start C_ok Tryd.func10 rfl rfl Tryd.ntmps10 ?_
  repeat (first | refine Ops.go ?_ | refine And.intro rfl ?_ | refine And.intro (Nat.le_of_ble_eq_true rfl) ?_ | refine And.intro (Int.natCast_nonneg _) ?_ | refine fun (_ : Nat) => ?_ | refine Ord.go ?_ | refine Run.go rfl ?_ | refine Cont.go rfl ?_ | refine OrdP.go ?_)
  refine ACall.ret c1 ?_
  repeat (first | refine Ops.go ?_ | refine And.intro rfl ?_ | refine And.intro (Nat.le_of_ble_eq_true rfl) ?_ | refine And.intro (Int.natCast_nonneg _) ?_ | refine fun (_ : Nat) => ?_ | refine Ord.go ?_ | refine Run.go rfl ?_ | refine Cont.go rfl ?_ | refine OrdP.go ?_)
  refine Run.drawn true [0, 2, 1, 3, 4, 5, 6, 7, 8, 9, 10] (by kernel_rfl) ?_
  repeat (first | refine Ops.go ?_ | refine And.intro rfl ?_ | refine And.intro (Nat.le_of_ble_eq_true rfl) ?_ | refine And.intro (Int.natCast_nonneg _) ?_ | refine fun (_ : Nat) => ?_ | refine Ord.go ?_ | refine Run.go rfl ?_ | refine Cont.go rfl ?_ | refine OrdP.go ?_)
  refine ACallQ.ret (num_spec _) ?_
  repeat (first | refine Ops.go ?_ | refine And.intro rfl ?_ | refine And.intro (Nat.le_of_ble_eq_true rfl) ?_ | refine And.intro (Int.natCast_nonneg _) ?_ | refine fun (_ : Nat) => ?_ | refine Ord.go ?_ | refine Run.go rfl ?_ | refine Cont.go rfl ?_ | refine OrdP.go ?_)
  refine ACallQ.ret c2 ?_
  repeat (first | refine Ops.go ?_ | refine And.intro rfl ?_ | refine And.intro (Nat.le_of_ble_eq_true rfl) ?_ | refine And.intro (Int.natCast_nonneg _) ?_ | refine fun (_ : Nat) => ?_ | refine Ord.go ?_ | refine Run.go rfl ?_ | refine Cont.go rfl ?_ | refine OrdP.go ?_)
  refine ⟨fun _ => ?_, fun h => absurd hE h⟩
  repeat (first | refine Ops.go ?_ | refine And.intro rfl ?_ | refine And.intro (Nat.le_of_ble_eq_true rfl) ?_ | refine And.intro (Int.natCast_nonneg _) ?_ | refine fun (_ : Nat) => ?_ | refine Ord.go ?_ | refine Run.go rfl ?_ | refine Cont.go rfl ?_ | refine OrdP.go ?_)
  refine ACallQ.ret c3 ?_
  repeat (first | refine Ops.go ?_ | refine And.intro rfl ?_ | refine And.intro (Nat.le_of_ble_eq_true rfl) ?_ | refine And.intro (Int.natCast_nonneg _) ?_ | refine fun (_ : Nat) => ?_ | refine Ord.go ?_ | refine Run.go rfl ?_ | refine Cont.go rfl ?_ | refine OrdP.go ?_)
  exact ⟨_, [], FinOk.drop _ _, rfl, rfl⟩

set_option maxHeartbeats 2000000 in
theorem lawChecks_spec (st : Int) (pl : ByteArray) (kd : Int) (xs : List Sn) (n : Nat) (hx : n ≤ xs.length) (px : ∀ x ∈ xs, x.p.size ≤ 9223372036854775807) :
    FnSpec C 3 [shot st pl kd (rdo xs n)] [] (fun r L' => r = .bool true ∧ L' = []) := by
  refine FnSpec.start C_ok Tryd.func3 rfl rfl Tryd.ntmps3 ?_
  repeat (first | refine Ops.go ?_ | refine And.intro rfl ?_ | refine And.intro (Nat.le_of_ble_eq_true rfl) ?_ | refine And.intro (Int.natCast_nonneg _) ?_ | refine fun (_ : Nat) => ?_ | refine Ord.go ?_ | refine Run.go rfl ?_ | refine Cont.go rfl ?_ | refine OrdP.go ?_)
  have s1 := small_spec st pl kd xs n
  by_cases hn : n ≤ 70
  case neg =>
    simp only [hn, decide_false] at s1
    refine ACall.ret s1 ?_
    repeat (first | refine Ops.go ?_ | refine And.intro rfl ?_ | refine And.intro (Nat.le_of_ble_eq_true rfl) ?_ | refine And.intro (Int.natCast_nonneg _) ?_ | refine fun (_ : Nat) => ?_ | refine Ord.go ?_ | refine Run.go rfl ?_ | refine Cont.go rfl ?_ | refine OrdP.go ?_)
    exact ⟨_, [], FinOk.drop _ _, rfl, rfl⟩
  simp only [hn, decide_true] at s1
  refine ACall.ret s1 ?_
  repeat (first | refine Ops.go ?_ | refine And.intro rfl ?_ | refine And.intro (Nat.le_of_ble_eq_true rfl) ?_ | refine And.intro (Int.natCast_nonneg _) ?_ | refine fun (_ : Nat) => ?_ | refine Ord.go ?_ | refine Run.go rfl ?_ | refine Cont.go rfl ?_ | refine OrdP.go ?_)
  refine ACall.pure _ (roomy_spec st pl kd xs n hn hx) ?_
  rintro r L' ⟨gc, Cc, rfl, rfl⟩
  refine ⟨shot st pl kd (.sl 1 gc Cc n), Sub.aggs ⟨Sub.refl _, Sub.refl _, Sub.refl _, Sub.sl _ _ _ _ _, trivial⟩, ?_⟩
  have hxl : (xs.take n).length = n := by simp; omega
  have tx : (xs.take n ++ [mark]).take n = xs.take n := by rw [List.take_append_of_le_length (by omega), List.take_take, Nat.min_self]
  have markAt : ∀ (l : List Sn) (n : Nat), l.length = n → (l ++ [mark])[n]? = some mark := fun l n h => by subst h; simp
  have cl : n + 1 ≤ (xs.take n ++ [mark]).length := by simp; omega
  have pc : ∀ x ∈ xs.take n ++ [mark], x.p.size ≤ 9223372036854775807 := fun x hx => by
    rcases List.mem_append.1 hx with hx | hx
    · exact px x (List.mem_of_mem_take hx)
    · obtain rfl : x = mark := by simpa using hx
      decide
  have c1 := checks_spec st pl kd (xs.take n ++ [mark]) xs n cl hx hn (markAt _ n hxl) tx pc px
  have lc : ∀ (ws : List Sn) (K : Nat) (L : AHeap), n + 1 ≤ ws.length → L[K]? = some (gc, .row 50 3 Cc (ws.map enc)) → Lend L (shot st pl kd (.sl K gc Cc n)) (shot st pl kd (rdo ws n)) := fun ws K L hw h =>
    Lend.aggs ⟨.same _, .same _, .same _, .row _ _ _ _ _ _ _ h (by simp; omega), trivial⟩
  have behind : ∀ (ws : List Sn), ws.length = (xs.take n ++ [mark]).length → ws.drop n = (xs.take n ++ [mark]).drop n → n + 1 ≤ ws.length ∧ ws[n]? = some mark := fun ws hl hd => by
    refine ⟨by rw [hl]; exact cl, ?_⟩
    have h1 : (ws.drop n)[0]? = ((xs.take n ++ [mark]).drop n)[0]? := by rw [hd]
    rw [List.getElem?_drop, List.getElem?_drop, Nat.add_zero, markAt _ n hxl] at h1
    exact h1
  have k1 := check_spec 0 ⟨#[47, 97]⟩ 1 [] 0 (Nat.le_refl _) (by simp)
  have k2 := check_spec 0 ⟨#[]⟩ 0 [] 0 (Nat.le_refl _) (by simp)
  rw [show checkE 0 ⟨#[47, 97]⟩ 1 [] 0 = 0 from if_pos ⟨by omega, by decide +kernel, .inl rfl, by omega, by decide, fun _ _ h => absurd h (Nat.not_lt_zero _)⟩] at k1
  rw [show checkE 0 ⟨#[]⟩ 0 [] 0 = 51 from if_neg (fun h => absurd h.2.1 (by decide))] at k2
  repeat (first | refine Ops.go ?_ | refine And.intro rfl ?_ | refine And.intro (Nat.le_of_ble_eq_true rfl) ?_ | refine And.intro (Int.natCast_nonneg _) ?_ | refine fun (_ : Nat) => ?_ | refine Ord.go ?_ | refine Run.go rfl ?_ | refine Cont.go rfl ?_ | refine OrdP.go ?_)
  refine Run.drawnP [0, 2] [0, 1, 2, 3, 4, 5, 6, 7, 8, 9, 10, 11, 12, 13, 14, 15, 16, 17, 18, 19, 20, 21, 22, 23, 24, 25] (by kernel_rfl) ?_
  repeat (first | refine Ops.go ?_ | refine And.intro rfl ?_ | refine And.intro (Nat.le_of_ble_eq_true rfl) ?_ | refine And.intro (Int.natCast_nonneg _) ?_ | refine fun (_ : Nat) => ?_ | refine Ord.go ?_ | refine Run.go rfl ?_ | refine Cont.go rfl ?_ | refine OrdP.go ?_)
  refine ACallP.ret_lend (.two (lc _ _ _ cl rfl) (.same _)) c1 rfl ?_
  repeat (first | refine Ops.go ?_ | refine And.intro rfl ?_ | refine And.intro (Nat.le_of_ble_eq_true rfl) ?_ | refine And.intro (Int.natCast_nonneg _) ?_ | refine fun (_ : Nat) => ?_ | refine Ord.go ?_ | refine Run.go rfl ?_ | refine Cont.go rfl ?_ | refine OrdP.go ?_)
  refine ACallP.sel [1] (by decide) rfl [shot st pl kd (.sl 0 gc Cc n), .int .i64 0] _ (.two (Sub.aggs (.four (.refl _) (.refl _) (.refl _) (.sl _ _ _ _ _))) (.refl _)) (turned_spec 0 (fun p => p.size ≤ 9223372036854775807) st pl kd gc Cc (xs.take n ++ [mark]) n (by omega) hn pc) ?_
  rintro r L' ⟨ws, hwl, hwd, pw, hcase⟩
  obtain ⟨b1, b2⟩ := behind ws hwl hwd
  have htl : (ws.take n).length = n := by simp; omega
  rcases hcase with ⟨hm0, rfl, rfl⟩ | ⟨hm0, gx, Cx, rfl, rfl⟩
  · refine ⟨_, .refl _, ?_⟩
    subst hm0
    have c2 := checks_spec st pl kd ws [] 0 b1 (Nat.le_refl _) (by omega) b2 rfl pw (by simp)
    have lx : ∀ L : AHeap, Lend L (shot st pl kd .nils) (shot st pl kd (rdo [] 0)) := fun L => Lend.aggs ⟨.same _, .same _, .same _, .nils 3, trivial⟩
    repeat (first | refine Ops.go ?_ | refine And.intro rfl ?_ | refine And.intro (Nat.le_of_ble_eq_true rfl) ?_ | refine And.intro (Int.natCast_nonneg _) ?_ | refine fun (_ : Nat) => ?_ | refine Ord.go ?_ | refine Run.go rfl ?_ | refine Cont.go rfl ?_ | refine OrdP.go ?_)
    refine ACallP.ret_lend (.two (lc _ _ _ b1 rfl) (lx _)) c2 rfl ?_
    repeat (first | refine Ops.go ?_ | refine And.intro rfl ?_ | refine And.intro (Nat.le_of_ble_eq_true rfl) ?_ | refine And.intro (Int.natCast_nonneg _) ?_ | refine fun (_ : Nat) => ?_ | refine Ord.go ?_ | refine Run.go rfl ?_ | refine Cont.go rfl ?_ | refine OrdP.go ?_)
    refine ACallP.sel [1] (by decide) rfl [shot st pl kd (.sl 0 gc Cc 0), .int .i64 1] _ (.two (Sub.aggs (.four (.refl _) (.refl _) (.refl _) (.sl _ _ _ _ _))) (.refl _)) (turned_spec 1 (fun p => p.size ≤ 9223372036854775807) st pl kd gc Cc ws 0 (by omega) hn pw) ?_
    rintro r L' ⟨ws2, hwl2, hwd2, pw2, hcase⟩
    obtain ⟨b3, b4⟩ := behind ws2 (hwl2.trans hwl) (hwd2.trans hwd)
    rcases hcase with ⟨_, rfl, rfl⟩ | ⟨hm0, _⟩
    case inr => exact absurd hm0 (by omega)
    refine ⟨_, .refl _, ?_⟩
    have c3 := checks_spec st pl kd ws2 [] 0 b3 (Nat.le_refl _) (by omega) b4 rfl pw2 (by simp)
    repeat (first | refine Ops.go ?_ | refine And.intro rfl ?_ | refine And.intro (Nat.le_of_ble_eq_true rfl) ?_ | refine And.intro (Int.natCast_nonneg _) ?_ | refine fun (_ : Nat) => ?_ | refine Ord.go ?_ | refine Run.go rfl ?_ | refine Cont.go rfl ?_ | refine OrdP.go ?_)
    refine ACallP.ret_lend (.two (lc _ _ _ b3 rfl) (lx _)) c3 rfl ?_
    repeat (first | refine Ops.go ?_ | refine And.intro rfl ?_ | refine And.intro (Nat.le_of_ble_eq_true rfl) ?_ | refine And.intro (Int.natCast_nonneg _) ?_ | refine fun (_ : Nat) => ?_ | refine Ord.go ?_ | refine Run.go rfl ?_ | refine Cont.go rfl ?_ | refine OrdP.go ?_)
    refine ACallP.ret_lend (args' := [shot 0 ⟨#[47, 97]⟩ 1 (rdo [] 0)]) (.one (Lend.aggs ⟨.same _, .same _, .same _, .nils 3, trivial⟩)) k1 rfl ?_
    repeat (first | refine Ops.go ?_ | refine And.intro rfl ?_ | refine And.intro (Nat.le_of_ble_eq_true rfl) ?_ | refine And.intro (Int.natCast_nonneg _) ?_ | refine fun (_ : Nat) => ?_ | refine Ord.go ?_ | refine Run.go rfl ?_ | refine Cont.go rfl ?_ | refine OrdP.go ?_)
    refine ⟨fun _ => ?_, fun h => absurd rfl h⟩
    repeat (first | refine Ops.go ?_ | refine And.intro rfl ?_ | refine And.intro (Nat.le_of_ble_eq_true rfl) ?_ | refine And.intro (Int.natCast_nonneg _) ?_ | refine fun (_ : Nat) => ?_ | refine Ord.go ?_ | refine Run.go rfl ?_ | refine Cont.go rfl ?_ | refine OrdP.go ?_)
    refine ACallP.ret_lend (args' := [shot 0 ⟨#[]⟩ 0 (rdo [] 0)]) (.one (Lend.aggs ⟨.same _, .same _, .same _, .nils 3, trivial⟩)) k2 rfl ?_
    repeat (first | refine Ops.go ?_ | refine And.intro rfl ?_ | refine And.intro (Nat.le_of_ble_eq_true rfl) ?_ | refine And.intro (Int.natCast_nonneg _) ?_ | refine fun (_ : Nat) => ?_ | refine Ord.go ?_ | refine Run.go rfl ?_ | refine Cont.go rfl ?_ | refine OrdP.go ?_)
    refine ⟨fun _ => ?_, fun h => absurd rfl h⟩
    repeat (first | refine Ops.go ?_ | refine And.intro rfl ?_ | refine And.intro (Nat.le_of_ble_eq_true rfl) ?_ | refine And.intro (Int.natCast_nonneg _) ?_ | refine fun (_ : Nat) => ?_ | refine Ord.go ?_ | refine Run.go rfl ?_ | refine Cont.go rfl ?_ | refine OrdP.go ?_)
    exact ⟨_, [], FinOk.drop _ _, rfl, rfl⟩
  · refine ⟨shot st pl kd (.sl 3 gx Cx n), Sub.aggs (.four (.refl _) (.refl _) (.refl _) (.sl _ _ _ _ _)), ?_⟩
    have c2 := checks_spec st pl kd ws (ws.take n) n b1 (by omega) hn b2 (by rw [List.take_take, Nat.min_self]) pw (fun x hx => pw x (List.mem_of_mem_take hx))
    have lx : ∀ (ws : List Sn) (K gx Cx : Nat) (L : AHeap), n ≤ ws.length → L[K]? = some (gx, .row 50 3 Cx ((ws.take n).map enc)) → Lend L (shot st pl kd (.sl K gx Cx n)) (shot st pl kd (rdo (ws.take n) n)) := fun ws K gx Cx L hw h =>
      Lend.aggs ⟨.same _, .same _, .same _, .row _ _ _ _ _ _ _ h (by simp; omega), trivial⟩
    repeat (first | refine Ops.go ?_ | refine And.intro rfl ?_ | refine And.intro (Nat.le_of_ble_eq_true rfl) ?_ | refine And.intro (Int.natCast_nonneg _) ?_ | refine fun (_ : Nat) => ?_ | refine Ord.go ?_ | refine Run.go rfl ?_ | refine Cont.go rfl ?_ | refine OrdP.go ?_)
    refine ACallP.ret_lend (.two (lc _ _ _ b1 rfl) (lx ws _ _ _ _ (by omega) rfl)) c2 rfl ?_
    repeat (first | refine Ops.go ?_ | refine And.intro rfl ?_ | refine And.intro (Nat.le_of_ble_eq_true rfl) ?_ | refine And.intro (Int.natCast_nonneg _) ?_ | refine fun (_ : Nat) => ?_ | refine Ord.go ?_ | refine Run.go rfl ?_ | refine Cont.go rfl ?_ | refine OrdP.go ?_)
    refine ACallP.sel [1] (by decide) rfl [shot st pl kd (.sl 0 gc Cc n), .int .i64 1] _ (.two (Sub.aggs (.four (.refl _) (.refl _) (.refl _) (.sl _ _ _ _ _))) (.refl _)) (turned_spec 1 (fun p => p.size ≤ 9223372036854775807) st pl kd gc Cc ws n (by omega) hn pw) ?_
    rintro r L' ⟨ws2, hwl2, hwd2, pw2, hcase⟩
    obtain ⟨b3, b4⟩ := behind ws2 (hwl2.trans hwl) (hwd2.trans hwd)
    rcases hcase with ⟨hm0', _⟩ | ⟨_, gy, Cy, rfl, rfl⟩
    · exact absurd hm0' (by omega)
    have htl2 : (ws2.take n).length = n := by simp; omega
    refine ⟨shot st pl kd (.sl 4 gy Cy n), Sub.aggs (.four (.refl _) (.refl _) (.refl _) (.sl _ _ _ _ _)), ?_⟩
    have c3 := checks_spec st pl kd ws2 (ws2.take n) n b3 (by omega) hn b4 (by rw [List.take_take, Nat.min_self]) pw2 (fun x hx => pw2 x (List.mem_of_mem_take hx))
    repeat (first | refine Ops.go ?_ | refine And.intro rfl ?_ | refine And.intro (Nat.le_of_ble_eq_true rfl) ?_ | refine And.intro (Int.natCast_nonneg _) ?_ | refine fun (_ : Nat) => ?_ | refine Ord.go ?_ | refine Run.go rfl ?_ | refine Cont.go rfl ?_ | refine OrdP.go ?_)
    refine ACallP.ret_lend (.two (lc _ _ _ b3 rfl) (lx ws2 _ _ _ _ (by omega) rfl)) c3 rfl ?_
    repeat (first | refine Ops.go ?_ | refine And.intro rfl ?_ | refine And.intro (Nat.le_of_ble_eq_true rfl) ?_ | refine And.intro (Int.natCast_nonneg _) ?_ | refine fun (_ : Nat) => ?_ | refine Ord.go ?_ | refine Run.go rfl ?_ | refine Cont.go rfl ?_ | refine OrdP.go ?_)
    refine ACallP.ret_lend (args' := [shot 0 ⟨#[47, 97]⟩ 1 (rdo [] 0)]) (.one (Lend.aggs ⟨.same _, .same _, .same _, .nils 3, trivial⟩)) k1 rfl ?_
    repeat (first | refine Ops.go ?_ | refine And.intro rfl ?_ | refine And.intro (Nat.le_of_ble_eq_true rfl) ?_ | refine And.intro (Int.natCast_nonneg _) ?_ | refine fun (_ : Nat) => ?_ | refine Ord.go ?_ | refine Run.go rfl ?_ | refine Cont.go rfl ?_ | refine OrdP.go ?_)
    refine ⟨fun _ => ?_, fun h => absurd rfl h⟩
    repeat (first | refine Ops.go ?_ | refine And.intro rfl ?_ | refine And.intro (Nat.le_of_ble_eq_true rfl) ?_ | refine And.intro (Int.natCast_nonneg _) ?_ | refine fun (_ : Nat) => ?_ | refine Ord.go ?_ | refine Run.go rfl ?_ | refine Cont.go rfl ?_ | refine OrdP.go ?_)
    refine ACallP.ret_lend (args' := [shot 0 ⟨#[]⟩ 0 (rdo [] 0)]) (.one (Lend.aggs ⟨.same _, .same _, .same _, .nils 3, trivial⟩)) k2 rfl ?_
    repeat (first | refine Ops.go ?_ | refine And.intro rfl ?_ | refine And.intro (Nat.le_of_ble_eq_true rfl) ?_ | refine And.intro (Int.natCast_nonneg _) ?_ | refine fun (_ : Nat) => ?_ | refine Ord.go ?_ | refine Run.go rfl ?_ | refine Cont.go rfl ?_ | refine OrdP.go ?_)
    refine ⟨fun _ => ?_, fun h => absurd rfl h⟩
    repeat (first | refine Ops.go ?_ | refine And.intro rfl ?_ | refine And.intro (Nat.le_of_ble_eq_true rfl) ?_ | refine And.intro (Int.natCast_nonneg _) ?_ | refine fun (_ : Nat) => ?_ | refine Ord.go ?_ | refine Run.go rfl ?_ | refine Cont.go rfl ?_ | refine OrdP.go ?_)
    exact ⟨_, [], FinOk.drop _ _, rfl, rfl⟩
end Go.Proofs.YtfohedaadncefaaDoor.HBT
