/- The laws' helpers: same, find. -/
import Derived.Test.YtiikjcdjgmlcgaaDoorTdT9
namespace Go.Proofs.YtiikjcdjgmlcgaaDoor.HBT
open Go Go.Proofs.YtiikjcdjgmlcgaaDoor.HB Go.RowKit
set_option maxRecDepth 8000

abbrev rdX (l : List Fu) : AV := .ro 7 (l.map encX) l.length
theorem fx_eq (x y : Fu) : allEq [.str x.p, .str x.d, .int .i64 x.v, .int .i64 x.m, .int .i64 x.c, .int .i64 x.o, .int .i64 x.k] [.str y.p, .str y.d, .int .i64 y.v, .int .i64 y.m, .int .i64 y.c, .int .i64 y.o, .int .i64 y.k] ↔ x = y := by
  cases x; cases y; simp [allEq, eq1]
theorem chg_eq (x y : Chg) : allEq [.int .i64 x.k, .str x.p, .str x.d, .int .i64 x.v] [.int .i64 y.k, .str y.p, .str y.d, .int .i64 y.v] ↔ x = y := by
  cases x; cases y; simp [allEq, eq1]
theorem eq_of_upto {α : Type} {a b : List α} (hl : a.length = b.length) (h : ∀ j < a.length, a[j]? = b[j]?) : a = b := by
  apply List.ext_getElem?
  intro j
  by_cases hj : j < a.length
  · exact h j hj
  · rw [List.getElem?_eq_none (by omega), List.getElem?_eq_none (by omega)]
set_option maxHeartbeats 4000000 in
theorem same_spec (a b : List Fu) (ha : a.length ≤ 1000) : FnSpec C 19 [rdX a, rdX b] [] (fun r L' => r = .bool (decide (a = b)) ∧ L' = []) := by
  refine FnSpec.start C_ok Tryd.func19 rfl rfl Tryd.ntmps19 ?_
  repeat (first | refine OpsA.cons ?_ | refine OpsA.nil ?_ | refine OrdA.cons rfl ?_ | refine OrdA.nil ?_ | refine OrdW.cons rfl ?_ | refine OrdW.nil ?_ | refine OrdK.cons rfl ?_ | refine OrdK.nil ?_ | refine OrdN.one rfl ?_ | refine OrdN.nil ?_ | refine Run.textA C_ok (aopC_sound C_ok) ?_ | refine And.intro rfl ?_ | refine And.intro (Nat.le_of_ble_eq_true rfl) ?_ | refine And.intro (Int.natCast_nonneg _) ?_ | refine fun (_ : Nat) => ?_ | refine Ord.go ?_ | refine Run.go rfl ?_ | refine Cont.go rfl ?_ | refine OrdP.go ?_)
  refine ⟨fun h => ?_, fun h => ?_⟩
  · have h : ¬ (a.length : Int) = b.length := h
    repeat (first | refine OpsA.cons ?_ | refine OpsA.nil ?_ | refine OrdA.cons rfl ?_ | refine OrdA.nil ?_ | refine OrdW.cons rfl ?_ | refine OrdW.nil ?_ | refine OrdK.cons rfl ?_ | refine OrdK.nil ?_ | refine OrdN.one rfl ?_ | refine OrdN.nil ?_ | refine Run.textA C_ok (aopC_sound C_ok) ?_ | refine And.intro rfl ?_ | refine And.intro (Nat.le_of_ble_eq_true rfl) ?_ | refine And.intro (Int.natCast_nonneg _) ?_ | refine fun (_ : Nat) => ?_ | refine Ord.go ?_ | refine Run.go rfl ?_ | refine Cont.go rfl ?_ | refine OrdP.go ?_)
    exact ⟨_, [], FinOk.drop _ _, congrArg AV.bool (decide_eq_false fun e => h (by rw [e])).symm, rfl⟩
  have hl : a.length = b.length := by have h : ¬ ¬ (a.length : Int) = b.length := h; omega
  repeat (first | refine OpsA.cons ?_ | refine OpsA.nil ?_ | refine OrdA.cons rfl ?_ | refine OrdA.nil ?_ | refine OrdW.cons rfl ?_ | refine OrdW.nil ?_ | refine OrdK.cons rfl ?_ | refine OrdK.nil ?_ | refine OrdN.one rfl ?_ | refine OrdN.nil ?_ | refine Run.textA C_ok (aopC_sound C_ok) ?_ | refine And.intro rfl ?_ | refine And.intro (Nat.le_of_ble_eq_true rfl) ?_ | refine And.intro (Int.natCast_nonneg _) ?_ | refine fun (_ : Nat) => ?_ | refine Ord.go ?_ | refine Run.go rfl ?_ | refine Cont.go rfl ?_ | refine OrdP.go ?_)
  refine Run.loop (fun k env L => ∃ i : Nat, k = a.length - i ∧ i ≤ a.length ∧ (∀ j < i, a[j]? = b[j]?) ∧ env = [rdX a, rdX b, .junk, .junk, .junk, .int .i64 i, .junk, .junk, .junk, .junk, .junk, .junk, .junk, .junk, .junk, .junk, .junk, .junk, .junk, .junk, .junk, .junk, .junk, .junk, .junk, .junk] ∧ L = []) a.length [rdX a, rdX b, .junk, .junk, .junk, .int .i64 (0 : Nat), .junk, .junk, .junk, .junk, .junk, .junk, .junk, .junk, .junk, .junk, .junk, .junk, .junk, .junk, .junk, .junk, .junk, .junk, .junk, .junk] ?_ ⟨0, by omega, by omega, fun j hj => absurd hj (Nat.not_lt_zero j), rfl, rfl⟩ ?_
  · repeat (first | exact trivial | refine ⟨.inl rfl, ?_⟩ | refine ⟨.inr rfl, ?_⟩)
  rintro k env L ⟨i, rfl, hi, hP, rfl, rfl⟩
  repeat (first | refine OpsA.cons ?_ | refine OpsA.nil ?_ | refine OrdA.cons rfl ?_ | refine OrdA.nil ?_ | refine OrdW.cons rfl ?_ | refine OrdW.nil ?_ | refine OrdK.cons rfl ?_ | refine OrdK.nil ?_ | refine OrdN.one rfl ?_ | refine OrdN.nil ?_ | refine Run.textA C_ok (aopC_sound C_ok) ?_ | refine And.intro rfl ?_ | refine And.intro (Nat.le_of_ble_eq_true rfl) ?_ | refine And.intro (Int.natCast_nonneg _) ?_ | refine fun (_ : Nat) => ?_ | refine Ord.go ?_ | refine Run.go rfl ?_ | refine Cont.go rfl ?_ | refine OrdP.go ?_)
  refine ⟨fun h => ?_, fun h => ?_⟩
  · have h : (i : Int) < (a.length : Int) := h
    have hia : i < a.length := by omega
    obtain ⟨x, ex⟩ : ∃ x, a[i]? = some x := ⟨_, List.getElem?_eq_getElem hia⟩
    obtain ⟨y, ey⟩ : ∃ y, b[i]? = some y := ⟨_, List.getElem?_eq_getElem (by omega)⟩
    repeat (first | refine OpsA.cons ?_ | refine OpsA.nil ?_ | refine OrdA.cons rfl ?_ | refine OrdA.nil ?_ | refine OrdW.cons rfl ?_ | refine OrdW.nil ?_ | refine OrdK.cons rfl ?_ | refine OrdK.nil ?_ | refine OrdN.one rfl ?_ | refine OrdN.nil ?_ | refine Run.textA C_ok (aopC_sound C_ok) ?_ | refine And.intro rfl ?_ | refine And.intro (Nat.le_of_ble_eq_true rfl) ?_ | refine And.intro (Int.natCast_nonneg _) ?_ | refine fun (_ : Nat) => ?_ | refine Ord.go ?_ | refine Run.go rfl ?_ | refine Cont.go rfl ?_ | refine OrdP.go ?_)
    refine Run.drawnK C_ok (aopC_sound C_ok) [] [0, 1, 2, 3, 4, 5, 6, 7, 8] (by kernel_rfl) ?_
    repeat (first | refine OpsA.cons ?_ | refine OpsA.nil ?_ | refine OrdA.cons rfl ?_ | refine OrdA.nil ?_ | refine OrdW.cons rfl ?_ | refine OrdW.nil ?_ | refine OrdK.cons rfl ?_ | refine OrdK.nil ?_ | refine OrdN.one rfl ?_ | refine OrdN.nil ?_ | refine Run.textA C_ok (aopC_sound C_ok) ?_ | refine And.intro rfl ?_ | refine And.intro (Nat.le_of_ble_eq_true rfl) ?_ | refine And.intro (Int.natCast_nonneg _) ?_ | refine fun (_ : Nat) => ?_ | refine Ord.go ?_ | refine Run.go rfl ?_ | refine Cont.go rfl ?_ | refine OrdP.go ?_)
    refine ⟨h, encX x, map_at encX ex, ?_⟩
    repeat (first | refine OpsA.cons ?_ | refine OpsA.nil ?_ | refine OrdA.cons rfl ?_ | refine OrdA.nil ?_ | refine OrdW.cons rfl ?_ | refine OrdW.nil ?_ | refine OrdK.cons rfl ?_ | refine OrdK.nil ?_ | refine OrdN.one rfl ?_ | refine OrdN.nil ?_ | refine Run.textA C_ok (aopC_sound C_ok) ?_ | refine And.intro rfl ?_ | refine And.intro (Nat.le_of_ble_eq_true rfl) ?_ | refine And.intro (Int.natCast_nonneg _) ?_ | refine fun (_ : Nat) => ?_ | refine Ord.go ?_ | refine Run.go rfl ?_ | refine Cont.go rfl ?_ | refine OrdP.go ?_)
    refine ⟨show (i : Int) < (b.length : Int) by omega, encX y, map_at encX ey, ?_⟩
    repeat (first | refine OpsA.cons ?_ | refine OpsA.nil ?_ | refine OrdA.cons rfl ?_ | refine OrdA.nil ?_ | refine OrdW.cons rfl ?_ | refine OrdW.nil ?_ | refine OrdK.cons rfl ?_ | refine OrdK.nil ?_ | refine OrdN.one rfl ?_ | refine OrdN.nil ?_ | refine Run.textA C_ok (aopC_sound C_ok) ?_ | refine And.intro rfl ?_ | refine And.intro (Nat.le_of_ble_eq_true rfl) ?_ | refine And.intro (Int.natCast_nonneg _) ?_ | refine fun (_ : Nat) => ?_ | refine Ord.go ?_ | refine Run.go rfl ?_ | refine Cont.go rfl ?_ | refine OrdP.go ?_)
    refine ⟨fun hne => ?_, fun heq => ?_⟩
    · have hne : x ≠ y := fun e => hne ((fx_eq x y).2 e)
      repeat (first | refine OpsA.cons ?_ | refine OpsA.nil ?_ | refine OrdA.cons rfl ?_ | refine OrdA.nil ?_ | refine OrdW.cons rfl ?_ | refine OrdW.nil ?_ | refine OrdK.cons rfl ?_ | refine OrdK.nil ?_ | refine OrdN.one rfl ?_ | refine OrdN.nil ?_ | refine Run.textA C_ok (aopC_sound C_ok) ?_ | refine And.intro rfl ?_ | refine And.intro (Nat.le_of_ble_eq_true rfl) ?_ | refine And.intro (Int.natCast_nonneg _) ?_ | refine fun (_ : Nat) => ?_ | refine Ord.go ?_ | refine Run.go rfl ?_ | refine Cont.go rfl ?_ | refine OrdP.go ?_)
      exact ⟨_, [], FinOk.drop _ _, congrArg AV.bool (decide_eq_false fun e => hne (by rw [e] at ex; exact Option.some.inj (ex.symm.trans ey))).symm, rfl⟩
    · have heq : x = y := (fx_eq x y).1 (Classical.not_not.1 heq)
      subst heq
      repeat (first | refine OpsA.cons ?_ | refine OpsA.nil ?_ | refine OrdA.cons rfl ?_ | refine OrdA.nil ?_ | refine OrdW.cons rfl ?_ | refine OrdW.nil ?_ | refine OrdK.cons rfl ?_ | refine OrdK.nil ?_ | refine OrdN.one rfl ?_ | refine OrdN.nil ?_ | refine Run.textA C_ok (aopC_sound C_ok) ?_ | refine And.intro rfl ?_ | refine And.intro (Nat.le_of_ble_eq_true rfl) ?_ | refine And.intro (Int.natCast_nonneg _) ?_ | refine fun (_ : Nat) => ?_ | refine Ord.go ?_ | refine Run.go rfl ?_ | refine Cont.go rfl ?_ | refine OrdP.go ?_)
      refine fun r hr => ?_
      obtain rfl := add1 hr (by omega)
      repeat (first | refine OpsA.cons ?_ | refine OpsA.nil ?_ | refine OrdA.cons rfl ?_ | refine OrdA.nil ?_ | refine OrdW.cons rfl ?_ | refine OrdW.nil ?_ | refine OrdK.cons rfl ?_ | refine OrdK.nil ?_ | refine OrdN.one rfl ?_ | refine OrdN.nil ?_ | refine Run.textA C_ok (aopC_sound C_ok) ?_ | refine And.intro rfl ?_ | refine And.intro (Nat.le_of_ble_eq_true rfl) ?_ | refine And.intro (Int.natCast_nonneg _) ?_ | refine fun (_ : Nat) => ?_ | refine Ord.go ?_ | refine Run.go rfl ?_ | refine Cont.go rfl ?_ | refine OrdP.go ?_)
      refine Cont.lp ?_
      refine ⟨a.length - (i + 1), _, 99, by omega, ?_, ⟨i + 1, rfl, by omega, fun j hj => ?_, rfl, rfl⟩⟩
      · repeat (first | exact trivial | refine ⟨.inl rfl, ?_⟩ | refine ⟨.inr rfl, ?_⟩)
      · by_cases e : j = i
        · subst e; rw [ex, ey]
        · exact hP j (by omega)
  · have h : ¬ (i : Int) < (a.length : Int) := h
    repeat (first | refine OpsA.cons ?_ | refine OpsA.nil ?_ | refine OrdA.cons rfl ?_ | refine OrdA.nil ?_ | refine OrdW.cons rfl ?_ | refine OrdW.nil ?_ | refine OrdK.cons rfl ?_ | refine OrdK.nil ?_ | refine OrdN.one rfl ?_ | refine OrdN.nil ?_ | refine Run.textA C_ok (aopC_sound C_ok) ?_ | refine And.intro rfl ?_ | refine And.intro (Nat.le_of_ble_eq_true rfl) ?_ | refine And.intro (Int.natCast_nonneg _) ?_ | refine fun (_ : Nat) => ?_ | refine Ord.go ?_ | refine Run.go rfl ?_ | refine Cont.go rfl ?_ | refine OrdP.go ?_)
    exact ⟨_, [], FinOk.drop _ _, congrArg AV.bool (decide_eq_true (eq_of_upto hl fun j hj => hP j (by omega))).symm, rfl⟩
abbrev zeroX : Fu := ⟨eS, eS, 0, 0, 0, 0, 0⟩
set_option maxHeartbeats 4000000 in
theorem find_spec (l : List Fu) (p : ByteArray) (hl : l.length ≤ 1000) : FnSpec C 15 [rdX l, .str p] [] (fun r L' => r = .tuple [encX ((findF l p).getD zeroX), .bool (findF l p).isSome] ∧ L' = []) := by
  refine FnSpec.start C_ok Tryd.func15 rfl rfl Tryd.ntmps15 ?_
  repeat (first | refine OpsA.cons ?_ | refine OpsA.nil ?_ | refine OrdA.cons rfl ?_ | refine OrdA.nil ?_ | refine OrdW.cons rfl ?_ | refine OrdW.nil ?_ | refine OrdK.cons rfl ?_ | refine OrdK.nil ?_ | refine OrdN.one rfl ?_ | refine OrdN.nil ?_ | refine Run.textA C_ok (aopC_sound C_ok) ?_ | refine And.intro rfl ?_ | refine And.intro (Nat.le_of_ble_eq_true rfl) ?_ | refine And.intro (Int.natCast_nonneg _) ?_ | refine fun (_ : Nat) => ?_ | refine Ord.go ?_ | refine Run.go rfl ?_ | refine Cont.go rfl ?_ | refine OrdP.go ?_)
  rename_i gr
  refine Run.loop (fun k env L => ∃ i : Nat, k = l.length - i ∧ i ≤ l.length ∧ findF l p = findF (l.drop i) p ∧ env = [rdX l, .str p, .junk, .junk, .ptr 0 gr 0, .junk, .int .i64 i, .junk, .junk, .junk, .junk, .junk, .junk, .junk, .junk, .junk, .junk, .junk, .junk, .junk, .junk, .junk, .junk, .junk, .junk] ∧ L = [(gr, .cells tX [.str eS, .str eS, .int .i64 0, .int .i64 0, .int .i64 0, .int .i64 0, .int .i64 0])]) l.length [rdX l, .str p, .junk, .junk, .ptr 0 gr 0, .junk, .int .i64 (0 : Nat), .junk, .junk, .junk, .junk, .junk, .junk, .junk, .junk, .junk, .junk, .junk, .junk, .junk, .junk, .junk, .junk, .junk, .junk] ?_ ⟨0, by omega, by omega, by rw [List.drop_zero], rfl, rfl⟩ ?_
  · repeat (first | exact trivial | refine ⟨.inl rfl, ?_⟩ | refine ⟨.inr rfl, ?_⟩)
  rintro k env L ⟨i, rfl, hi, hP, rfl, rfl⟩
  repeat (first | refine OpsA.cons ?_ | refine OpsA.nil ?_ | refine OrdA.cons rfl ?_ | refine OrdA.nil ?_ | refine OrdW.cons rfl ?_ | refine OrdW.nil ?_ | refine OrdK.cons rfl ?_ | refine OrdK.nil ?_ | refine OrdN.one rfl ?_ | refine OrdN.nil ?_ | refine Run.textA C_ok (aopC_sound C_ok) ?_ | refine And.intro rfl ?_ | refine And.intro (Nat.le_of_ble_eq_true rfl) ?_ | refine And.intro (Int.natCast_nonneg _) ?_ | refine fun (_ : Nat) => ?_ | refine Ord.go ?_ | refine Run.go rfl ?_ | refine Cont.go rfl ?_ | refine OrdP.go ?_)
  refine ⟨fun h => ?_, fun h => ?_⟩
  · have h : (i : Int) < (l.length : Int) := h
    have hil : i < l.length := by omega
    obtain ⟨x, ex⟩ : ∃ x, l[i]? = some x := ⟨_, List.getElem?_eq_getElem hil⟩
    have ed : l.drop i = x :: l.drop (i + 1) := drop_at ex
    repeat (first | refine OpsA.cons ?_ | refine OpsA.nil ?_ | refine OrdA.cons rfl ?_ | refine OrdA.nil ?_ | refine OrdW.cons rfl ?_ | refine OrdW.nil ?_ | refine OrdK.cons rfl ?_ | refine OrdK.nil ?_ | refine OrdN.one rfl ?_ | refine OrdN.nil ?_ | refine Run.textA C_ok (aopC_sound C_ok) ?_ | refine And.intro rfl ?_ | refine And.intro (Nat.le_of_ble_eq_true rfl) ?_ | refine And.intro (Int.natCast_nonneg _) ?_ | refine fun (_ : Nat) => ?_ | refine Ord.go ?_ | refine Run.go rfl ?_ | refine Cont.go rfl ?_ | refine OrdP.go ?_)
    refine ⟨h, encX x, map_at encX ex, ?_⟩
    repeat (first | refine OpsA.cons ?_ | refine OpsA.nil ?_ | refine OrdA.cons rfl ?_ | refine OrdA.nil ?_ | refine OrdW.cons rfl ?_ | refine OrdW.nil ?_ | refine OrdK.cons rfl ?_ | refine OrdK.nil ?_ | refine OrdN.one rfl ?_ | refine OrdN.nil ?_ | refine Run.textA C_ok (aopC_sound C_ok) ?_ | refine And.intro rfl ?_ | refine And.intro (Nat.le_of_ble_eq_true rfl) ?_ | refine And.intro (Int.natCast_nonneg _) ?_ | refine fun (_ : Nat) => ?_ | refine Ord.go ?_ | refine Run.go rfl ?_ | refine Cont.go rfl ?_ | refine OrdP.go ?_)
    refine ⟨fun hp => ?_, fun hp => ?_⟩
    · have hp : x.p = p := hp
      have hf : findF l p = some x := by rw [hP, ed]; unfold findF; rw [List.find?_cons_of_pos]; simpa using hp
      repeat (first | refine OpsA.cons ?_ | refine OpsA.nil ?_ | refine OrdA.cons rfl ?_ | refine OrdA.nil ?_ | refine OrdW.cons rfl ?_ | refine OrdW.nil ?_ | refine OrdK.cons rfl ?_ | refine OrdK.nil ?_ | refine OrdN.one rfl ?_ | refine OrdN.nil ?_ | refine Run.textA C_ok (aopC_sound C_ok) ?_ | refine And.intro rfl ?_ | refine And.intro (Nat.le_of_ble_eq_true rfl) ?_ | refine And.intro (Int.natCast_nonneg _) ?_ | refine fun (_ : Nat) => ?_ | refine Ord.go ?_ | refine Run.go rfl ?_ | refine Cont.go rfl ?_ | refine OrdP.go ?_)
      refine ⟨h, encX x, map_at encX ex, ?_⟩
      repeat (first | refine OpsA.cons ?_ | refine OpsA.nil ?_ | refine OrdA.cons rfl ?_ | refine OrdA.nil ?_ | refine OrdW.cons rfl ?_ | refine OrdW.nil ?_ | refine OrdK.cons rfl ?_ | refine OrdK.nil ?_ | refine OrdN.one rfl ?_ | refine OrdN.nil ?_ | refine Run.textA C_ok (aopC_sound C_ok) ?_ | refine And.intro rfl ?_ | refine And.intro (Nat.le_of_ble_eq_true rfl) ?_ | refine And.intro (Int.natCast_nonneg _) ?_ | refine fun (_ : Nat) => ?_ | refine Ord.go ?_ | refine Run.go rfl ?_ | refine Cont.go rfl ?_ | refine OrdP.go ?_)
      exact ⟨_, [], FinOk.drop _ _, by rw [hf]; rfl, rfl⟩
    · have hp : ¬ x.p = p := hp
      have hf : findF l p = findF (l.drop (i + 1)) p := by rw [hP, ed]; unfold findF; rw [List.find?_cons_of_neg]; simpa using hp
      repeat (first | refine OpsA.cons ?_ | refine OpsA.nil ?_ | refine OrdA.cons rfl ?_ | refine OrdA.nil ?_ | refine OrdW.cons rfl ?_ | refine OrdW.nil ?_ | refine OrdK.cons rfl ?_ | refine OrdK.nil ?_ | refine OrdN.one rfl ?_ | refine OrdN.nil ?_ | refine Run.textA C_ok (aopC_sound C_ok) ?_ | refine And.intro rfl ?_ | refine And.intro (Nat.le_of_ble_eq_true rfl) ?_ | refine And.intro (Int.natCast_nonneg _) ?_ | refine fun (_ : Nat) => ?_ | refine Ord.go ?_ | refine Run.go rfl ?_ | refine Cont.go rfl ?_ | refine OrdP.go ?_)
      refine fun r hr => ?_
      obtain rfl := add1 hr (by omega)
      repeat (first | refine OpsA.cons ?_ | refine OpsA.nil ?_ | refine OrdA.cons rfl ?_ | refine OrdA.nil ?_ | refine OrdW.cons rfl ?_ | refine OrdW.nil ?_ | refine OrdK.cons rfl ?_ | refine OrdK.nil ?_ | refine OrdN.one rfl ?_ | refine OrdN.nil ?_ | refine Run.textA C_ok (aopC_sound C_ok) ?_ | refine And.intro rfl ?_ | refine And.intro (Nat.le_of_ble_eq_true rfl) ?_ | refine And.intro (Int.natCast_nonneg _) ?_ | refine fun (_ : Nat) => ?_ | refine Ord.go ?_ | refine Run.go rfl ?_ | refine Cont.go rfl ?_ | refine OrdP.go ?_)
      refine Cont.lp ?_
      refine ⟨l.length - (i + 1), _, 99, by omega, ?_, ⟨i + 1, rfl, by omega, hf, rfl, rfl⟩⟩
      · repeat (first | exact trivial | refine ⟨.inl rfl, ?_⟩ | refine ⟨.inr rfl, ?_⟩)
  · have h : ¬ (i : Int) < (l.length : Int) := h
    have hf : findF l p = none := by rw [hP, List.drop_of_length_le (by omega)]; rfl
    repeat (first | refine OpsA.cons ?_ | refine OpsA.nil ?_ | refine OrdA.cons rfl ?_ | refine OrdA.nil ?_ | refine OrdW.cons rfl ?_ | refine OrdW.nil ?_ | refine OrdK.cons rfl ?_ | refine OrdK.nil ?_ | refine OrdN.one rfl ?_ | refine OrdN.nil ?_ | refine Run.textA C_ok (aopC_sound C_ok) ?_ | refine And.intro rfl ?_ | refine And.intro (Nat.le_of_ble_eq_true rfl) ?_ | refine And.intro (Int.natCast_nonneg _) ?_ | refine fun (_ : Nat) => ?_ | refine Ord.go ?_ | refine Run.go rfl ?_ | refine Cont.go rfl ?_ | refine OrdP.go ?_)
    exact ⟨_, [], FinOk.drop _ _, by rw [hf]; rfl, rfl⟩
end Go.Proofs.YtiikjcdjgmlcgaaDoor.HBT
/- What one reading op answers, plainly. -/
namespace Go.Proofs.YtiikjcdjgmlcgaaDoor.HBT
open Go Go.Proofs.YtiikjcdjgmlcgaaDoor.HB Go.RowKit
set_option maxRecDepth 8000

/-- What a reading op is refused with. -/
def wantF (l : List Fu) (p : ByteArray) (v k : Int) : Int :=
  if parseE p ≠ 0 then 10 else if (findF l p).isSome = false then 40 else if k = 4 ∧ v ≠ -1 ∧ v ≠ ((findF l p).getD zeroX).v then 42 else 0
/-- What a reading op answers of a node. -/
def resF (l : List Fu) (x : Fu) (k : Int) : Res :=
  ⟨x.p, if k = 5 then x.d else eS, x.v, x.m, x.c, x.o, if k = 7 then (kidsF l x.p).map fun y => nameB y.p else []⟩
theorem reads_one (l : List Fu) (s st : Int) (p : ByteArray) (v k : Int) (h4 : 4 ≤ k) (h7 : k ≤ 7) :
    playF l s st ⟨k, p, eS, v, 0⟩ = if wantF l p v k = 0 then .ok (l, resF l ((findF l p).getD zeroX) k, []) else .error (wantF l p v k) := by
  unfold playF wantF
  rw [if_neg (show ¬ (k < 1 ∨ 7 < k) by omega), if_neg (show ¬ k = 1 by omega)]
  by_cases h0 : parseE p ≠ 0
  · rw [if_pos h0, if_pos h0, if_neg (by decide)]
  rw [if_neg h0, if_neg h0, if_neg (show ¬ (k = 3 ∧ p = slash) by omega), if_neg (show ¬ (k = 2 ∧ 64 < eS.size) by omega)]
  cases hf : findF l p with
  | none => rfl
  | some x =>
    simp only [Option.isSome_some, Option.getD_some]
    rw [if_neg (show ¬ (true = false) by decide)]
    by_cases hv : k = 4 ∧ v ≠ -1 ∧ v ≠ x.v
    · rw [if_pos hv, if_pos ⟨by omega, hv.2⟩, if_neg (by decide)]
    · rw [if_neg hv, if_pos rfl, if_neg (show ¬ (k ≤ 4 ∧ v ≠ -1 ∧ v ≠ x.v) from fun e => hv ⟨by omega, e.2⟩), if_neg (show ¬ k = 2 by omega), if_neg (show ¬ k = 3 by omega)]
      by_cases h5 : k = 5
      · rw [if_pos h5]
        unfold resF
        rw [if_pos h5, if_neg (show ¬ k = 7 by omega)]
        rfl
      rw [if_neg h5]
      by_cases h7 : k = 7
      · rw [if_pos h7]
        unfold resF
        rw [if_neg h5, if_pos h7]
        rfl
      · rw [if_neg h7]
        unfold resF
        rw [if_neg h5, if_neg h7]
        rfl
theorem reads_play (l : List Fu) (p : ByteArray) (v k : Int) (h4 : 4 ≤ k) (h7 : k ≤ 7) :
    playR l 1 1 [⟨k, p, eS, v, 0⟩] = (l, ⟨1, wantF l p v k, 0, if wantF l p v k = 0 then [resF l ((findF l p).getD zeroX) k] else []⟩, []) := by
  unfold playR
  rw [if_neg (by simp), if_neg (by decide), if_neg (List.cons_ne_nil _ _)]
  unfold goF
  rw [reads_one l 1 1 p v k h4 h7]
  by_cases h : wantF l p v k = 0
  · rw [if_pos h, if_pos h, h]
    rfl
  · rw [if_neg h, if_neg h]
    rfl
end Go.Proofs.YtiikjcdjgmlcgaaDoor.HBT
/- All or nothing, plainly. -/
namespace Go.Proofs.YtiikjcdjgmlcgaaDoor.HBT
open Go Go.Proofs.YtiikjcdjgmlcgaaDoor.HB Go.RowKit
set_option maxRecDepth 8000

theorem goF_len {s st : Int} : ∀ {os : List Opp} {l l' : List Fu} {rs rs' : List Res} {cs cs' : List Chg} {i : Nat}, goF s st l rs cs i os = .ok (l', rs', cs') → rs'.length = rs.length + os.length
  | [], _, _, _, _, _, _, _, h => by unfold goF at h; cases h; simp
  | o :: os, l, l', rs, rs', cs, cs', i, h => by
    unfold goF at h
    split at h
    · cases h
    · have := goF_len h
      rw [this]
      simp
      omega
theorem goF_at {s st : Int} : ∀ {os : List Opp} {l : List Fu} {rs : List Res} {cs : List Chg} {i : Nat} {e : Int} {j : Nat}, goF s st l rs cs i os = .error (e, j) → e ≠ 0 ∧ i ≤ j ∧ j < i + os.length ∧ ∃ l' rs' cs', goF s st l rs cs i (os.take (j - i)) = .ok (l', rs', cs')
  | [], _, _, _, _, _, _, h => by unfold goF at h; cases h
  | o :: os, l, rs, cs, i, e, j, h => by
    unfold goF at h
    split at h
    · rename_i e' he
      cases h
      refine ⟨play_err he, Nat.le_refl _, by simp, l, rs, cs, ?_⟩
      rw [Nat.sub_self]
      rfl
    · rename_i l2 r c he
      obtain ⟨h1, h2, h3, l', rs', cs', h4⟩ := goF_at h
      refine ⟨h1, by omega, by simp; omega, l', rs', cs', ?_⟩
      have e : j - i = (j - (i + 1)) + 1 := by omega
      rw [e, List.take_succ_cons]
      unfold goF
      rw [he]
      exact h4
/-- What the law asks of a reply. -/
theorem playR_all (l : List Fu) (s st : Int) (ops : List Opp) : (playR l s st ops).2.1.st = st
    ∧ ((playR l s st ops).2.1.code = 0 → (playR l s st ops).2.1.at_ = 0 ∧ (playR l s st ops).2.1.rs.length = ops.length)
    ∧ ((playR l s st ops).2.1.code ≠ 0 → (playR l s st ops).1 = l ∧ (playR l s st ops).2.2 = [] ∧ (playR l s st ops).2.1.rs = [] ∧ ∃ n : Nat, (playR l s st ops).2.1.at_ = n ∧ (n = 0 ∨ (n < ops.length ∧ (playR l s st (ops.take n)).2.1.code = 0 ∧ (playR l s st (ops.take n)).2.1.rs.length = n))) := by
  by_cases h1 : 4 < ops.length
  · have e : playR l s st ops = (l, ⟨st, 2, 0, []⟩, []) := by unfold playR; rw [if_pos h1]
    rw [e]; exact ⟨rfl, fun h => absurd h (by show ¬ (2 : Int) = 0; decide), fun _ => ⟨rfl, rfl, rfl, 0, rfl, .inl rfl⟩⟩
  by_cases h2 : s < 0 ∨ 2147483647 < s ∨ st < 1 ∨ 2147483647 < st
  · have e : playR l s st ops = (l, ⟨st, 3, 0, []⟩, []) := by unfold playR; rw [if_neg h1, if_pos h2]
    rw [e]; exact ⟨rfl, fun h => absurd h (by show ¬ (3 : Int) = 0; decide), fun _ => ⟨rfl, rfl, rfl, 0, rfl, .inl rfl⟩⟩
  by_cases h3 : ops = []
  · have e : playR l s st ops = (l, ⟨st, 48, 0, []⟩, []) := by unfold playR; rw [if_neg h1, if_neg h2, if_pos h3]
    rw [e]; exact ⟨rfl, fun h => absurd h (by show ¬ (48 : Int) = 0; decide), fun _ => ⟨rfl, rfl, rfl, 0, rfl, .inl rfl⟩⟩
  cases hg : goF s st l [] [] 0 ops with
  | error ej =>
    obtain ⟨e, j⟩ := ej
    have e1 : playR l s st ops = (l, ⟨st, e, j, []⟩, []) := by unfold playR; rw [if_neg h1, if_neg h2, if_neg h3, hg]
    obtain ⟨q1, q2, q3, l', rs', cs', q4⟩ := goF_at hg
    rw [e1]
    refine ⟨rfl, fun h => absurd h q1, fun _ => ⟨rfl, rfl, rfl, j, rfl, ?_⟩⟩
    by_cases hj : j = 0
    · exact .inl hj
    refine .inr ⟨by omega, ?_⟩
    have q3 : j < ops.length := by omega
    have hl : (ops.take j).length = j := by rw [List.length_take]; omega
    have hn : ops.take j ≠ [] := fun e => by
      have e2 : (ops.take j).length = 0 := by rw [e]; rfl
      omega
    have e2 : playR l s st (ops.take j) = (l', ⟨st, 0, 0, rs'⟩, cs') := by
      unfold playR
      rw [if_neg (by omega), if_neg h2, if_neg hn]
      rw [Nat.sub_zero] at q4
      rw [q4]
    rw [e2]
    refine ⟨rfl, ?_⟩
    rw [Nat.sub_zero] at q4
    have := goF_len q4
    simp only [List.length_nil, hl, Nat.zero_add] at this
    exact this
  | ok x =>
    obtain ⟨l', rs', cs'⟩ := x
    have e1 : playR l s st ops = (l', ⟨st, 0, 0, rs'⟩, cs') := by unfold playR; rw [if_neg h1, if_neg h2, if_neg h3, hg]
    rw [e1]
    refine ⟨rfl, fun _ => ⟨rfl, ?_⟩, fun h => absurd rfl h⟩
    have := goF_len hg
    simp only [List.length_nil, Nat.zero_add] at this
    exact this
end Go.Proofs.YtiikjcdjgmlcgaaDoor.HBT
/- Loading, plainly: which lists of nodes make a tree. -/
namespace Go.Proofs.YtiikjcdjgmlcgaaDoor.HBT
open Go Go.Proofs.YtiikjcdjgmlcgaaDoor.HB Go.RowKit
set_option maxRecDepth 8000

/-- May a node's numbers and data be? -/
def mayP (x : Fu) : Prop := (0 ≤ x.v ∧ x.v ≤ 2147483647) ∧ (0 ≤ x.m ∧ x.m ≤ 2147483647) ∧ (0 ≤ x.c ∧ x.c ≤ 2147483647) ∧ (0 ≤ x.o ∧ x.o ≤ 2147483647) ∧ x.d.size ≤ 64 ∧ 0 ≤ x.k ∧ x.k ≤ 100000 ∧ (x.o = 0 ∨ x.k = 0)
instance (x : Fu) : Decidable (mayP x) := by unfold mayP; infer_instance
/-- May a node stand behind these? -/
def standsP (done : List Fu) (x : Fu) : Prop := (done = [] ∧ x.p = slash ∧ x.o = 0) ∨ (∃ y, done.getLast? = some y ∧ parentE x.p = 0 ∧ orderB y.p x.p < 0 ∧ ∃ a ∈ done, a.p = parentB x.p ∧ a.o = 0)
open Classical in
/-- Do these make a tree, behind those? -/
noncomputable def loadB : List Fu → List Fu → Bool
  | _, [] => true
  | done, x :: l => decide (standsP done x ∧ mayP x) && loadB (done ++ [x]) l
noncomputable def loadE (l : List Fu) : Int := if 64 < l.length then 2 else if l = [] then 1 else if loadB [] l = true then 0 else 1

theorem stands_inv {done : List Fu} {x : Fu} (h : done = [] ∨ TInv done) (hl : done.length < 64) (hs : standsP done x) (hm : mayP x) : TInv (done ++ [x]) := by
  obtain ⟨m1, m2, m3, m4, m5, m6, m7, m8⟩ := hm
  rcases hs with ⟨rfl, e1, e2⟩ | ⟨y, ey, e1, e2, a, ha, e3, e4⟩
  · exact {
      sorted := List.pairwise_singleton _ _
      len := by simp
      root := ⟨x, by simp, e1, e2⟩
      ok := fun z hz => by
        simp at hz; subst hz
        exact ⟨e1 ▸ parse_slash, m5, m1, m2, m3, m4, ⟨m6, m7⟩, m8⟩
      up := fun z hz hn => by simp at hz; subst hz; exact absurd e1 hn }
  · have hI : TInv done := h.resolve_left fun e => by rw [e] at ha; cases ha
    obtain ⟨ys, rfl⟩ := List.getLast?_eq_some_iff.1 ey
    exact {
      sorted := by
        refine List.pairwise_append.2 ⟨hI.sorted, List.pairwise_singleton _ _, fun b hb c hc => ?_⟩
        simp only [List.mem_singleton] at hc; subst hc
        rcases List.mem_append.1 hb with hb | hb
        · exact orderB_trans ((List.pairwise_append.1 hI.sorted).2.2 b hb y (by simp)) e2
        · simp only [List.mem_singleton] at hb; subst hb; exact e2
      len := by rw [List.length_append]; simp only [List.length_singleton]; omega
      root := by
        obtain ⟨r, hr, q⟩ := hI.root
        exact ⟨r, List.mem_append.2 (.inl hr), q⟩
      ok := fun z hz => by
        rcases List.mem_append.1 hz with hz | hz
        · exact hI.ok z hz
        · simp only [List.mem_singleton] at hz; subst hz
          exact ⟨(parentE_zero e1).1, m5, m1, m2, m3, m4, ⟨m6, m7⟩, m8⟩
      up := fun z hz hn => by
        rcases List.mem_append.1 hz with hz | hz
        · obtain ⟨b, hb, q⟩ := hI.up z hz hn
          exact ⟨b, List.mem_append.2 (.inl hb), q⟩
        · simp only [List.mem_singleton] at hz; subst hz
          exact ⟨a, List.mem_append.2 (.inl ha), e3, e4⟩ }
open Classical in
theorem load_inv : ∀ {l done : List Fu}, done = [] ∨ TInv done → (done ++ l).length ≤ 64 → loadB done l = true → done ++ l = [] ∨ TInv (done ++ l)
  | [], done, h, _, _ => by rw [List.append_nil]; exact h
  | x :: l, done, h, hl, hb => by
    unfold loadB at hb
    rw [Bool.and_eq_true] at hb
    obtain ⟨h1, h2⟩ := hb
    have h1 := of_decide_eq_true h1
    have e : done ++ x :: l = (done ++ [x]) ++ l := by simp
    rw [e] at hl ⊢
    refine load_inv (.inr (stands_inv h ?_ h1.1 h1.2)) hl h2
    simp only [List.length_append, List.length_singleton] at hl
    omega
theorem TInv.stands {done : List Fu} {x : Fu} {l : List Fu} (h : TInv (done ++ x :: l)) : standsP done x ∧ mayP x := by
  have hx : x ∈ done ++ x :: l := by simp
  obtain ⟨q1, q2, q3, q4, q5, q6, q7, q8⟩ := h.ok x hx
  refine ⟨?_, q3, q4, q5, q6, q2, q7.1, q7.2, q8⟩
  by_cases hd : done = []
  · subst hd
    obtain ⟨r, tl, e, e1, e2⟩ := h.head
    simp only [List.nil_append, List.cons.injEq] at e
    obtain ⟨rfl, _⟩ := e
    exact .inl ⟨rfl, e1, e2⟩
  · obtain ⟨y, ey⟩ : ∃ y, done.getLast? = some y := ⟨_, List.getLast?_eq_some_getLast hd⟩
    obtain ⟨ys, rfl⟩ := List.getLast?_eq_some_iff.1 ey
    have ex : (ys ++ [y] ++ x :: l)[ys.length + 1]? = some x := by simp
    have ey2 : (ys ++ [y] ++ x :: l)[ys.length]? = some y := by simp
    obtain ⟨s1, s2, s3, k, z, s4, s5, s6, s7⟩ := h.sound ex ey2
    refine .inr ⟨y, ey, s1, by omega, z, ?_, s6, s7⟩
    have : (ys ++ [y])[k]? = some z := by
      rw [List.getElem?_append_left (by simp; omega)] at s5
      exact s5
    exact List.mem_of_getElem? this
open Classical in
theorem TInv.loadB : ∀ {l done : List Fu}, TInv (done ++ l) → HBT.loadB done l = true
  | [], _, _ => rfl
  | x :: l, done, h => by
    unfold HBT.loadB
    rw [Bool.and_eq_true]
    refine ⟨decide_eq_true h.stands, TInv.loadB ?_⟩
    have e : done ++ x :: l = (done ++ [x]) ++ l := by simp
    rw [← e]; exact h
theorem TInv.loadE {l : List Fu} (h : TInv l) : HBT.loadE l = 0 := by
  unfold HBT.loadE
  have h0 : l ≠ [] := fun e => by obtain ⟨r, hr, _⟩ := h.root; rw [e] at hr; cases hr
  rw [if_neg (by have := h.len; omega), if_neg h0, if_pos (TInv.loadB (done := []) h)]
end Go.Proofs.YtiikjcdjgmlcgaaDoor.HBT
/- Loading: may, Load. -/
namespace Go.Proofs.YtiikjcdjgmlcgaaDoor.HBT
open Go Go.Proofs.YtiikjcdjgmlcgaaDoor.HB Go.RowKit
set_option maxRecDepth 8000

set_option maxHeartbeats 2000000 in
theorem may_spec (x : Fu) : FnSpec C 60 [encX x] [] (fun r L' => r = .bool (decide (mayP x)) ∧ L' = []) := by
  have hno : ¬ mayP x → FinOk (.bool false) [] (.bool (decide (mayP x))) [] := fun h => by rw [decide_eq_false h]; exact FinOk.drop _ _
  refine FnSpec.start C_ok Tryd.func60 rfl rfl Tryd.ntmps60 ?_
  repeat (first | refine OpsA.cons ?_ | refine OpsA.nil ?_ | refine OrdA.cons rfl ?_ | refine OrdA.nil ?_ | refine OrdW.cons rfl ?_ | refine OrdW.nil ?_ | refine OrdK.cons rfl ?_ | refine OrdK.nil ?_ | refine OrdN.one rfl ?_ | refine OrdN.nil ?_ | refine Run.textA C_ok (aopC_sound C_ok) ?_ | refine And.intro rfl ?_ | refine And.intro (Nat.le_of_ble_eq_true rfl) ?_ | refine And.intro (Int.natCast_nonneg _) ?_ | refine fun (_ : Nat) => ?_ | refine Ord.go ?_ | refine Run.go rfl ?_ | refine Cont.go rfl ?_ | refine OrdP.go ?_)
  rename_i g1 gs
  refine Run.loopW (fun k env L => ∃ j : Nat, k = 4 - j ∧ j ≤ 4 ∧ (∀ i < j, ∀ y, [x.v, x.m, x.c, x.o][i]? = some y → 0 ≤ y ∧ y ≤ 2147483647) ∧ env = [.junk, .ptr 0 g1 0, .junk, .junk, .junk, .junk, .junk, .junk, .junk, .junk, .junk, .junk, .junk, .sl 1 gs 4 4, .int .i64 4, .int .i64 j, .junk, .junk, .junk, .junk, .junk, .junk, .junk, .junk, .junk, .junk, .junk, .junk, .junk, .junk, .junk, .junk, .junk, .junk, .junk, .junk, .junk, .junk, .junk, .junk, .junk, .junk, .junk, .junk, .junk, .junk, .junk, .junk, .junk, .junk] ∧ L = [(g1, .cells tX [.str x.p, .str x.d, .int .i64 x.v, .int .i64 x.m, .int .i64 x.c, .int .i64 x.o, .int .i64 x.k]), (gs, .row 3 1 4 ([x.v, x.m, x.c, x.o].map (AV.int .i64)))]) 4
    [.junk, .ptr 0 g1 0, .junk, .junk, .junk, .junk, .junk, .junk, .junk, .junk, .junk, .junk, .junk, .sl 1 gs 4 4, .int .i64 4, .int .i64 (0 : Nat), .junk, .junk, .junk, .junk, .junk, .junk, .junk, .junk, .junk, .junk, .junk, .junk, .junk, .junk, .junk, .junk, .junk, .junk, .junk, .junk, .junk, .junk, .junk, .junk, .junk, .junk, .junk, .junk, .junk, .junk, .junk, .junk, .junk, .junk] [(g1, .cells tX [.str x.p, .str x.d, .int .i64 x.v, .int .i64 x.m, .int .i64 x.c, .int .i64 x.o, .int .i64 x.k]), (gs, .row 3 1 4 ([x.v, x.m, x.c, x.o].map (AV.int .i64)))] (Weak.sel ?_ [0, 1] (by decide) ?_) ⟨0, by omega, by omega, fun i hi => absurd hi (Nat.not_lt_zero i), rfl, rfl⟩ ?_
  · repeat (first | exact trivial | refine And.intro (Sub.junk _) ?_ | refine And.intro (Sub.refl _) ?_ | refine And.intro (Sub.sl _ _ _ _ _) ?_ | refine And.intro (Sub.ptr _ _ _ _) ?_)
  · repeat (first | exact trivial | refine And.intro rfl ?_ | refine And.intro (SubO.refl _) ?_ | refine And.intro trivial ?_ | refine And.intro (SubO.cells (by repeat (first | exact trivial | refine And.intro (Sub.refl _) ?_ | refine And.intro (Sub.sl _ _ _ _ _) ?_ | refine And.intro (Sub.ptr _ _ _ _) ?_))) ?_)
  rintro k env L ⟨j, rfl, hj, hall, rfl, rfl⟩
  repeat (first | refine OpsA.cons ?_ | refine OpsA.nil ?_ | refine OrdA.cons rfl ?_ | refine OrdA.nil ?_ | refine OrdW.cons rfl ?_ | refine OrdW.nil ?_ | refine OrdK.cons rfl ?_ | refine OrdK.nil ?_ | refine OrdN.one rfl ?_ | refine OrdN.nil ?_ | refine Run.textA C_ok (aopC_sound C_ok) ?_ | refine And.intro rfl ?_ | refine And.intro (Nat.le_of_ble_eq_true rfl) ?_ | refine And.intro (Int.natCast_nonneg _) ?_ | refine fun (_ : Nat) => ?_ | refine Ord.go ?_ | refine Run.go rfl ?_ | refine Cont.go rfl ?_ | refine OrdP.go ?_)
  refine ⟨fun h => ?_, fun h => ?_⟩
  · have h : (j : Int) < 4 := h
    obtain ⟨y, ey⟩ : ∃ y, [x.v, x.m, x.c, x.o][j]? = some y := ⟨_, List.getElem?_eq_getElem (by show j < 4; omega)⟩
    have hbad : ¬ (0 ≤ y ∧ y ≤ 2147483647) → ¬ mayP x := fun hn hm => by
      obtain ⟨m1, m2, m3, m4, _⟩ := hm
      match j, ey with
      | 0, ey => cases ey; exact hn m1
      | 1, ey => cases ey; exact hn m2
      | 2, ey => cases ey; exact hn m3
      | 3, ey => cases ey; exact hn m4
    repeat (first | refine OpsA.cons ?_ | refine OpsA.nil ?_ | refine OrdA.cons rfl ?_ | refine OrdA.nil ?_ | refine OrdW.cons rfl ?_ | refine OrdW.nil ?_ | refine OrdK.cons rfl ?_ | refine OrdK.nil ?_ | refine OrdN.one rfl ?_ | refine OrdN.nil ?_ | refine Run.textA C_ok (aopC_sound C_ok) ?_ | refine And.intro rfl ?_ | refine And.intro (Nat.le_of_ble_eq_true rfl) ?_ | refine And.intro (Int.natCast_nonneg _) ?_ | refine fun (_ : Nat) => ?_ | refine Ord.go ?_ | refine Run.go rfl ?_ | refine Cont.go rfl ?_ | refine OrdP.go ?_)
    refine ⟨h, ?_⟩
    repeat (first | refine OpsA.cons ?_ | refine OpsA.nil ?_ | refine OrdA.cons rfl ?_ | refine OrdA.nil ?_ | refine OrdW.cons rfl ?_ | refine OrdW.nil ?_ | refine OrdK.cons rfl ?_ | refine OrdK.nil ?_ | refine OrdN.one rfl ?_ | refine OrdN.nil ?_ | refine Run.textA C_ok (aopC_sound C_ok) ?_ | refine And.intro rfl ?_ | refine And.intro (Nat.le_of_ble_eq_true rfl) ?_ | refine And.intro (Int.natCast_nonneg _) ?_ | refine fun (_ : Nat) => ?_ | refine Ord.go ?_ | refine Run.go rfl ?_ | refine Cont.go rfl ?_ | refine OrdP.go ?_)
    refine ⟨.int .i64 y, map_at (AV.int .i64) ey, ?_⟩
    repeat (first | refine OpsA.cons ?_ | refine OpsA.nil ?_ | refine OrdA.cons rfl ?_ | refine OrdA.nil ?_ | refine OrdW.cons rfl ?_ | refine OrdW.nil ?_ | refine OrdK.cons rfl ?_ | refine OrdK.nil ?_ | refine OrdN.one rfl ?_ | refine OrdN.nil ?_ | refine Run.textA C_ok (aopC_sound C_ok) ?_ | refine And.intro rfl ?_ | refine And.intro (Nat.le_of_ble_eq_true rfl) ?_ | refine And.intro (Int.natCast_nonneg _) ?_ | refine fun (_ : Nat) => ?_ | refine Ord.go ?_ | refine Run.go rfl ?_ | refine Cont.go rfl ?_ | refine OrdP.go ?_)
    refine ⟨fun h2 => ?_, fun h2 => ?_⟩
    · have h2 : y < 0 := h2
      repeat (first | refine OpsA.cons ?_ | refine OpsA.nil ?_ | refine OrdA.cons rfl ?_ | refine OrdA.nil ?_ | refine OrdW.cons rfl ?_ | refine OrdW.nil ?_ | refine OrdK.cons rfl ?_ | refine OrdK.nil ?_ | refine OrdN.one rfl ?_ | refine OrdN.nil ?_ | refine Run.textA C_ok (aopC_sound C_ok) ?_ | refine And.intro rfl ?_ | refine And.intro (Nat.le_of_ble_eq_true rfl) ?_ | refine And.intro (Int.natCast_nonneg _) ?_ | refine fun (_ : Nat) => ?_ | refine Ord.go ?_ | refine Run.go rfl ?_ | refine Cont.go rfl ?_ | refine OrdP.go ?_)
      exact ⟨_, [], FinOk.drop _ _, congrArg AV.bool (decide_eq_false (hbad (by omega))).symm, rfl⟩
    have h2 : ¬ y < 0 := h2
    repeat (first | refine OpsA.cons ?_ | refine OpsA.nil ?_ | refine OrdA.cons rfl ?_ | refine OrdA.nil ?_ | refine OrdW.cons rfl ?_ | refine OrdW.nil ?_ | refine OrdK.cons rfl ?_ | refine OrdK.nil ?_ | refine OrdN.one rfl ?_ | refine OrdN.nil ?_ | refine Run.textA C_ok (aopC_sound C_ok) ?_ | refine And.intro rfl ?_ | refine And.intro (Nat.le_of_ble_eq_true rfl) ?_ | refine And.intro (Int.natCast_nonneg _) ?_ | refine fun (_ : Nat) => ?_ | refine Ord.go ?_ | refine Run.go rfl ?_ | refine Cont.go rfl ?_ | refine OrdP.go ?_)
    refine ⟨fun h3 => ?_, fun h3 => ?_⟩
    · have h3 : 2147483647 < y := h3
      repeat (first | refine OpsA.cons ?_ | refine OpsA.nil ?_ | refine OrdA.cons rfl ?_ | refine OrdA.nil ?_ | refine OrdW.cons rfl ?_ | refine OrdW.nil ?_ | refine OrdK.cons rfl ?_ | refine OrdK.nil ?_ | refine OrdN.one rfl ?_ | refine OrdN.nil ?_ | refine Run.textA C_ok (aopC_sound C_ok) ?_ | refine And.intro rfl ?_ | refine And.intro (Nat.le_of_ble_eq_true rfl) ?_ | refine And.intro (Int.natCast_nonneg _) ?_ | refine fun (_ : Nat) => ?_ | refine Ord.go ?_ | refine Run.go rfl ?_ | refine Cont.go rfl ?_ | refine OrdP.go ?_)
      exact ⟨_, [], FinOk.drop _ _, congrArg AV.bool (decide_eq_false (hbad (by omega))).symm, rfl⟩
    have h3 : ¬ 2147483647 < y := h3
    repeat (first | refine OpsA.cons ?_ | refine OpsA.nil ?_ | refine OrdA.cons rfl ?_ | refine OrdA.nil ?_ | refine OrdW.cons rfl ?_ | refine OrdW.nil ?_ | refine OrdK.cons rfl ?_ | refine OrdK.nil ?_ | refine OrdN.one rfl ?_ | refine OrdN.nil ?_ | refine Run.textA C_ok (aopC_sound C_ok) ?_ | refine And.intro rfl ?_ | refine And.intro (Nat.le_of_ble_eq_true rfl) ?_ | refine And.intro (Int.natCast_nonneg _) ?_ | refine fun (_ : Nat) => ?_ | refine Ord.go ?_ | refine Run.go rfl ?_ | refine Cont.go rfl ?_ | refine OrdP.go ?_)
    refine fun r hr => ?_
    obtain rfl := add1 hr (by omega)
    repeat (first | refine OpsA.cons ?_ | refine OpsA.nil ?_ | refine OrdA.cons rfl ?_ | refine OrdA.nil ?_ | refine OrdW.cons rfl ?_ | refine OrdW.nil ?_ | refine OrdK.cons rfl ?_ | refine OrdK.nil ?_ | refine OrdN.one rfl ?_ | refine OrdN.nil ?_ | refine Run.textA C_ok (aopC_sound C_ok) ?_ | refine And.intro rfl ?_ | refine And.intro (Nat.le_of_ble_eq_true rfl) ?_ | refine And.intro (Int.natCast_nonneg _) ?_ | refine fun (_ : Nat) => ?_ | refine Ord.go ?_ | refine Run.go rfl ?_ | refine Cont.go rfl ?_ | refine OrdP.go ?_)
    refine Cont.lpW ?_
    refine ⟨4 - (j + 1), _, _, by omega, Weak.sel ?_ [0, 1] (by decide) ?_, ⟨j + 1, rfl, by omega, fun i hi z hz => ?_, rfl, rfl⟩⟩
    · repeat (first | exact trivial | refine And.intro (Sub.junk _) ?_ | refine And.intro (Sub.refl _) ?_ | refine And.intro (Sub.sl _ _ _ _ _) ?_ | refine And.intro (Sub.ptr _ _ _ _) ?_)
    · repeat (first | exact trivial | refine And.intro rfl ?_ | refine And.intro (SubO.refl _) ?_ | refine And.intro trivial ?_ | refine And.intro (SubO.cells (by repeat (first | exact trivial | refine And.intro (Sub.refl _) ?_ | refine And.intro (Sub.sl _ _ _ _ _) ?_ | refine And.intro (Sub.ptr _ _ _ _) ?_))) ?_)
    · by_cases e : i = j
      · subst e; rw [ey] at hz; cases hz; omega
      · exact hall i (by omega) z hz
  · have h : ¬ (j : Int) < 4 := h
    have m1 := hall 0 (by omega) x.v rfl
    have m2 := hall 1 (by omega) x.m rfl
    have m3 := hall 2 (by omega) x.c rfl
    have m4 := hall 3 (by omega) x.o rfl
    repeat (first | refine OpsA.cons ?_ | refine OpsA.nil ?_ | refine OrdA.cons rfl ?_ | refine OrdA.nil ?_ | refine OrdW.cons rfl ?_ | refine OrdW.nil ?_ | refine OrdK.cons rfl ?_ | refine OrdK.nil ?_ | refine OrdN.one rfl ?_ | refine OrdN.nil ?_ | refine Run.textA C_ok (aopC_sound C_ok) ?_ | refine And.intro rfl ?_ | refine And.intro (Nat.le_of_ble_eq_true rfl) ?_ | refine And.intro (Int.natCast_nonneg _) ?_ | refine fun (_ : Nat) => ?_ | refine Ord.go ?_ | refine Run.go rfl ?_ | refine Cont.go rfl ?_ | refine OrdP.go ?_)
    refine ⟨fun h1 => ?_, fun h1 => ?_⟩
    rotate_left
    · have h1 : ¬ (x.d.size : Int) ≤ 64 := h1
      repeat (first | refine OpsA.cons ?_ | refine OpsA.nil ?_ | refine OrdA.cons rfl ?_ | refine OrdA.nil ?_ | refine OrdW.cons rfl ?_ | refine OrdW.nil ?_ | refine OrdK.cons rfl ?_ | refine OrdK.nil ?_ | refine OrdN.one rfl ?_ | refine OrdN.nil ?_ | refine Run.textA C_ok (aopC_sound C_ok) ?_ | refine And.intro rfl ?_ | refine And.intro (Nat.le_of_ble_eq_true rfl) ?_ | refine And.intro (Int.natCast_nonneg _) ?_ | refine fun (_ : Nat) => ?_ | refine Ord.go ?_ | refine Run.go rfl ?_ | refine Cont.go rfl ?_ | refine OrdP.go ?_)
      exact ⟨_, [], FinOk.drop _ _, congrArg AV.bool (decide_eq_false fun e : mayP x => h1 (by have := e.2.2.2.2.1; omega)).symm, rfl⟩
    have h1 : (x.d.size : Int) ≤ 64 := h1
    repeat (first | refine OpsA.cons ?_ | refine OpsA.nil ?_ | refine OrdA.cons rfl ?_ | refine OrdA.nil ?_ | refine OrdW.cons rfl ?_ | refine OrdW.nil ?_ | refine OrdK.cons rfl ?_ | refine OrdK.nil ?_ | refine OrdN.one rfl ?_ | refine OrdN.nil ?_ | refine Run.textA C_ok (aopC_sound C_ok) ?_ | refine And.intro rfl ?_ | refine And.intro (Nat.le_of_ble_eq_true rfl) ?_ | refine And.intro (Int.natCast_nonneg _) ?_ | refine fun (_ : Nat) => ?_ | refine Ord.go ?_ | refine Run.go rfl ?_ | refine Cont.go rfl ?_ | refine OrdP.go ?_)
    refine ⟨fun h2 => ?_, fun h2 => ?_⟩
    rotate_left
    · have h2 : ¬ x.k ≥ 0 := h2
      repeat (first | refine OpsA.cons ?_ | refine OpsA.nil ?_ | refine OrdA.cons rfl ?_ | refine OrdA.nil ?_ | refine OrdW.cons rfl ?_ | refine OrdW.nil ?_ | refine OrdK.cons rfl ?_ | refine OrdK.nil ?_ | refine OrdN.one rfl ?_ | refine OrdN.nil ?_ | refine Run.textA C_ok (aopC_sound C_ok) ?_ | refine And.intro rfl ?_ | refine And.intro (Nat.le_of_ble_eq_true rfl) ?_ | refine And.intro (Int.natCast_nonneg _) ?_ | refine fun (_ : Nat) => ?_ | refine Ord.go ?_ | refine Run.go rfl ?_ | refine Cont.go rfl ?_ | refine OrdP.go ?_)
      exact ⟨_, [], FinOk.drop _ _, congrArg AV.bool (decide_eq_false fun e : mayP x => h2 e.2.2.2.2.2.1).symm, rfl⟩
    have h2 : x.k ≥ 0 := h2
    repeat (first | refine OpsA.cons ?_ | refine OpsA.nil ?_ | refine OrdA.cons rfl ?_ | refine OrdA.nil ?_ | refine OrdW.cons rfl ?_ | refine OrdW.nil ?_ | refine OrdK.cons rfl ?_ | refine OrdK.nil ?_ | refine OrdN.one rfl ?_ | refine OrdN.nil ?_ | refine Run.textA C_ok (aopC_sound C_ok) ?_ | refine And.intro rfl ?_ | refine And.intro (Nat.le_of_ble_eq_true rfl) ?_ | refine And.intro (Int.natCast_nonneg _) ?_ | refine fun (_ : Nat) => ?_ | refine Ord.go ?_ | refine Run.go rfl ?_ | refine Cont.go rfl ?_ | refine OrdP.go ?_)
    refine ⟨fun h3 => ?_, fun h3 => ?_⟩
    rotate_left
    · have h3 : ¬ x.k ≤ 100000 := h3
      repeat (first | refine OpsA.cons ?_ | refine OpsA.nil ?_ | refine OrdA.cons rfl ?_ | refine OrdA.nil ?_ | refine OrdW.cons rfl ?_ | refine OrdW.nil ?_ | refine OrdK.cons rfl ?_ | refine OrdK.nil ?_ | refine OrdN.one rfl ?_ | refine OrdN.nil ?_ | refine Run.textA C_ok (aopC_sound C_ok) ?_ | refine And.intro rfl ?_ | refine And.intro (Nat.le_of_ble_eq_true rfl) ?_ | refine And.intro (Int.natCast_nonneg _) ?_ | refine fun (_ : Nat) => ?_ | refine Ord.go ?_ | refine Run.go rfl ?_ | refine Cont.go rfl ?_ | refine OrdP.go ?_)
      exact ⟨_, [], FinOk.drop _ _, congrArg AV.bool (decide_eq_false fun e : mayP x => h3 e.2.2.2.2.2.2.1).symm, rfl⟩
    have h3 : x.k ≤ 100000 := h3
    repeat (first | refine OpsA.cons ?_ | refine OpsA.nil ?_ | refine OrdA.cons rfl ?_ | refine OrdA.nil ?_ | refine OrdW.cons rfl ?_ | refine OrdW.nil ?_ | refine OrdK.cons rfl ?_ | refine OrdK.nil ?_ | refine OrdN.one rfl ?_ | refine OrdN.nil ?_ | refine Run.textA C_ok (aopC_sound C_ok) ?_ | refine And.intro rfl ?_ | refine And.intro (Nat.le_of_ble_eq_true rfl) ?_ | refine And.intro (Int.natCast_nonneg _) ?_ | refine fun (_ : Nat) => ?_ | refine Ord.go ?_ | refine Run.go rfl ?_ | refine Cont.go rfl ?_ | refine OrdP.go ?_)
    refine ⟨fun h4 => ?_, fun h4 => ?_⟩
    · have h4 : x.o = 0 := h4
      repeat (first | refine OpsA.cons ?_ | refine OpsA.nil ?_ | refine OrdA.cons rfl ?_ | refine OrdA.nil ?_ | refine OrdW.cons rfl ?_ | refine OrdW.nil ?_ | refine OrdK.cons rfl ?_ | refine OrdK.nil ?_ | refine OrdN.one rfl ?_ | refine OrdN.nil ?_ | refine Run.textA C_ok (aopC_sound C_ok) ?_ | refine And.intro rfl ?_ | refine And.intro (Nat.le_of_ble_eq_true rfl) ?_ | refine And.intro (Int.natCast_nonneg _) ?_ | refine fun (_ : Nat) => ?_ | refine Ord.go ?_ | refine Run.go rfl ?_ | refine Cont.go rfl ?_ | refine OrdP.go ?_)
      exact ⟨_, [], FinOk.drop _ _, congrArg AV.bool (decide_eq_true (show mayP x from ⟨m1, m2, m3, m4, by omega, h2, h3, .inl h4⟩)).symm, rfl⟩
    have h4 : ¬ x.o = 0 := h4
    repeat (first | refine OpsA.cons ?_ | refine OpsA.nil ?_ | refine OrdA.cons rfl ?_ | refine OrdA.nil ?_ | refine OrdW.cons rfl ?_ | refine OrdW.nil ?_ | refine OrdK.cons rfl ?_ | refine OrdK.nil ?_ | refine OrdN.one rfl ?_ | refine OrdN.nil ?_ | refine Run.textA C_ok (aopC_sound C_ok) ?_ | refine And.intro rfl ?_ | refine And.intro (Nat.le_of_ble_eq_true rfl) ?_ | refine And.intro (Int.natCast_nonneg _) ?_ | refine fun (_ : Nat) => ?_ | refine Ord.go ?_ | refine Run.go rfl ?_ | refine Cont.go rfl ?_ | refine OrdP.go ?_)
    refine ⟨fun h5 => ?_, fun h5 => ?_⟩
    · have h5 : x.k = 0 := h5
      repeat (first | refine OpsA.cons ?_ | refine OpsA.nil ?_ | refine OrdA.cons rfl ?_ | refine OrdA.nil ?_ | refine OrdW.cons rfl ?_ | refine OrdW.nil ?_ | refine OrdK.cons rfl ?_ | refine OrdK.nil ?_ | refine OrdN.one rfl ?_ | refine OrdN.nil ?_ | refine Run.textA C_ok (aopC_sound C_ok) ?_ | refine And.intro rfl ?_ | refine And.intro (Nat.le_of_ble_eq_true rfl) ?_ | refine And.intro (Int.natCast_nonneg _) ?_ | refine fun (_ : Nat) => ?_ | refine Ord.go ?_ | refine Run.go rfl ?_ | refine Cont.go rfl ?_ | refine OrdP.go ?_)
      exact ⟨_, [], FinOk.drop _ _, congrArg AV.bool (decide_eq_true (show mayP x from ⟨m1, m2, m3, m4, by omega, h2, h3, .inr h5⟩)).symm, rfl⟩
    · have h5 : ¬ x.k = 0 := h5
      repeat (first | refine OpsA.cons ?_ | refine OpsA.nil ?_ | refine OrdA.cons rfl ?_ | refine OrdA.nil ?_ | refine OrdW.cons rfl ?_ | refine OrdW.nil ?_ | refine OrdK.cons rfl ?_ | refine OrdK.nil ?_ | refine OrdN.one rfl ?_ | refine OrdN.nil ?_ | refine Run.textA C_ok (aopC_sound C_ok) ?_ | refine And.intro rfl ?_ | refine And.intro (Nat.le_of_ble_eq_true rfl) ?_ | refine And.intro (Int.natCast_nonneg _) ?_ | refine fun (_ : Nat) => ?_ | refine Ord.go ?_ | refine Run.go rfl ?_ | refine Cont.go rfl ?_ | refine OrdP.go ?_)
      exact ⟨_, [], FinOk.drop _ _, congrArg AV.bool (decide_eq_false fun e : mayP x => e.2.2.2.2.2.2.2.elim h4 h5).symm, rfl⟩

open Classical in
theorem loadB_bad {done l : List Fu} {x : Fu} (h : ¬ (standsP done x ∧ mayP x)) : loadB done (x :: l) = false := by
  unfold loadB
  rw [decide_eq_false h]; rfl
open Classical in
theorem loadB_good {done l : List Fu} {x : Fu} (h : standsP done x ∧ mayP x) : loadB done (x :: l) = loadB (done ++ [x]) l := by
  conv => lhs; unfold loadB
  rw [decide_eq_true h]; rfl
/-- What Load answers. -/
def LoadQ (l : List Fu) : AV → AHeap → Prop := fun r L' =>
  (loadE l = 0 ∧ TInv l ∧ ∃ gt gm es cl, TM l es cl ∧ r = .tuple [.ptr 0 gt 0, .int .i64 0] ∧ L' = TreeL gt gm es cl) ∨ (loadE l ≠ 0 ∧ r = .tuple [.nilp, .int .i64 (loadE l)] ∧ L' = [])
set_option maxHeartbeats 2000000 in
theorem load_spec (all : List Fu) (n : Nat) (hn : n ≤ all.length) : FnSpec C 39 [.ro 7 (all.map encX) n] [] (LoadQ (all.take n)) := by
  have hlen : (all.take n).length = n := by rw [List.length_take]; omega
  have bad : ∀ e, loadE (all.take n) = e → e ≠ 0 → LoadQ (all.take n) (.tuple [.nilp, .int .i64 e]) [] := fun e h h0 => by subst h; exact .inr ⟨h0, rfl, rfl⟩
  refine FnSpec.start C_ok Tryd.func39 rfl rfl Tryd.ntmps39 ?_
  repeat (first | refine OpsA.cons ?_ | refine OpsA.nil ?_ | refine OrdA.cons rfl ?_ | refine OrdA.nil ?_ | refine OrdW.cons rfl ?_ | refine OrdW.nil ?_ | refine OrdK.cons rfl ?_ | refine OrdK.nil ?_ | refine OrdN.one rfl ?_ | refine OrdN.nil ?_ | refine Run.textA C_ok (aopC_sound C_ok) ?_ | refine And.intro rfl ?_ | refine And.intro (Nat.le_of_ble_eq_true rfl) ?_ | refine And.intro (Int.natCast_nonneg _) ?_ | refine fun (_ : Nat) => ?_ | refine Ord.go ?_ | refine Run.go rfl ?_ | refine Cont.go rfl ?_ | refine OrdP.go ?_)
  refine ⟨fun h => ?_, fun h => ?_⟩
  · have h : (64 : Int) < (n : Int) := h
    repeat (first | refine OpsA.cons ?_ | refine OpsA.nil ?_ | refine OrdA.cons rfl ?_ | refine OrdA.nil ?_ | refine OrdW.cons rfl ?_ | refine OrdW.nil ?_ | refine OrdK.cons rfl ?_ | refine OrdK.nil ?_ | refine OrdN.one rfl ?_ | refine OrdN.nil ?_ | refine Run.textA C_ok (aopC_sound C_ok) ?_ | refine And.intro rfl ?_ | refine And.intro (Nat.le_of_ble_eq_true rfl) ?_ | refine And.intro (Int.natCast_nonneg _) ?_ | refine fun (_ : Nat) => ?_ | refine Ord.go ?_ | refine Run.go rfl ?_ | refine Cont.go rfl ?_ | refine OrdP.go ?_)
    exact ⟨_, [], FinOk.drop _ _, bad 2 (by unfold loadE; rw [if_pos (by omega)]) (by decide)⟩
  have h64 : ¬ (64 : Int) < (n : Int) := h
  repeat (first | refine OpsA.cons ?_ | refine OpsA.nil ?_ | refine OrdA.cons rfl ?_ | refine OrdA.nil ?_ | refine OrdW.cons rfl ?_ | refine OrdW.nil ?_ | refine OrdK.cons rfl ?_ | refine OrdK.nil ?_ | refine OrdN.one rfl ?_ | refine OrdN.nil ?_ | refine Run.textA C_ok (aopC_sound C_ok) ?_ | refine And.intro rfl ?_ | refine And.intro (Nat.le_of_ble_eq_true rfl) ?_ | refine And.intro (Int.natCast_nonneg _) ?_ | refine fun (_ : Nat) => ?_ | refine Ord.go ?_ | refine Run.go rfl ?_ | refine Cont.go rfl ?_ | refine OrdP.go ?_)
  refine ⟨fun h => ?_, fun h => ?_⟩
  · have h : (n : Int) = 0 := h
    repeat (first | refine OpsA.cons ?_ | refine OpsA.nil ?_ | refine OrdA.cons rfl ?_ | refine OrdA.nil ?_ | refine OrdW.cons rfl ?_ | refine OrdW.nil ?_ | refine OrdK.cons rfl ?_ | refine OrdK.nil ?_ | refine OrdN.one rfl ?_ | refine OrdN.nil ?_ | refine Run.textA C_ok (aopC_sound C_ok) ?_ | refine And.intro rfl ?_ | refine And.intro (Nat.le_of_ble_eq_true rfl) ?_ | refine And.intro (Int.natCast_nonneg _) ?_ | refine fun (_ : Nat) => ?_ | refine Ord.go ?_ | refine Run.go rfl ?_ | refine Cont.go rfl ?_ | refine OrdP.go ?_)
    exact ⟨_, [], FinOk.drop _ _, bad 1 (by unfold loadE; rw [if_neg (by omega), if_pos (List.eq_nil_of_length_eq_zero (by omega))]) (by decide)⟩
  have h0 : ¬ (n : Int) = 0 := h
  have hne : all.take n ≠ [] := fun e => by rw [e] at hlen; simp at hlen; omega
  have no : loadB [] (all.take n) = false → LoadQ (all.take n) (.tuple [.nilp, .int .i64 1]) [] := fun hb => bad 1 (by unfold loadE; rw [if_neg (by omega), if_neg hne, hb]; rfl) (by decide)
  obtain ⟨x0, e0⟩ : ∃ x, all[0]? = some x := ⟨_, List.getElem?_eq_getElem (by omega)⟩
  have et : all.take n = x0 :: (all.take n).drop 1 := by
    have e : (all.take n)[0]? = some x0 := by rw [List.getElem?_take_of_lt (by omega)]; exact e0
    have := drop_at e
    rwa [List.drop_zero] at this
  repeat (first | refine OpsA.cons ?_ | refine OpsA.nil ?_ | refine OrdA.cons rfl ?_ | refine OrdA.nil ?_ | refine OrdW.cons rfl ?_ | refine OrdW.nil ?_ | refine OrdK.cons rfl ?_ | refine OrdK.nil ?_ | refine OrdN.one rfl ?_ | refine OrdN.nil ?_ | refine Run.textA C_ok (aopC_sound C_ok) ?_ | refine And.intro rfl ?_ | refine And.intro (Nat.le_of_ble_eq_true rfl) ?_ | refine And.intro (Int.natCast_nonneg _) ?_ | refine fun (_ : Nat) => ?_ | refine Ord.go ?_ | refine Run.go rfl ?_ | refine Cont.go rfl ?_ | refine OrdP.go ?_)
  refine ⟨by omega, encX x0, map_at encX e0, ?_⟩
  repeat (first | refine OpsA.cons ?_ | refine OpsA.nil ?_ | refine OrdA.cons rfl ?_ | refine OrdA.nil ?_ | refine OrdW.cons rfl ?_ | refine OrdW.nil ?_ | refine OrdK.cons rfl ?_ | refine OrdK.nil ?_ | refine OrdN.one rfl ?_ | refine OrdN.nil ?_ | refine Run.textA C_ok (aopC_sound C_ok) ?_ | refine And.intro rfl ?_ | refine And.intro (Nat.le_of_ble_eq_true rfl) ?_ | refine And.intro (Int.natCast_nonneg _) ?_ | refine fun (_ : Nat) => ?_ | refine Ord.go ?_ | refine Run.go rfl ?_ | refine Cont.go rfl ?_ | refine OrdP.go ?_)
  refine ⟨fun h1 => ?_, fun h1 => ?_⟩
  · have h1 : ¬ x0.p = slash := h1
    repeat (first | refine OpsA.cons ?_ | refine OpsA.nil ?_ | refine OrdA.cons rfl ?_ | refine OrdA.nil ?_ | refine OrdW.cons rfl ?_ | refine OrdW.nil ?_ | refine OrdK.cons rfl ?_ | refine OrdK.nil ?_ | refine OrdN.one rfl ?_ | refine OrdN.nil ?_ | refine Run.textA C_ok (aopC_sound C_ok) ?_ | refine And.intro rfl ?_ | refine And.intro (Nat.le_of_ble_eq_true rfl) ?_ | refine And.intro (Int.natCast_nonneg _) ?_ | refine fun (_ : Nat) => ?_ | refine Ord.go ?_ | refine Run.go rfl ?_ | refine Cont.go rfl ?_ | refine OrdP.go ?_)
    exact ⟨_, [], FinOk.drop _ _, no (by rw [et, loadB_bad]; rintro ⟨(⟨_, e, _⟩ | ⟨y, e, _⟩), _⟩; exact h1 e; cases e)⟩
  have h1 : x0.p = slash := Classical.not_not.1 h1
  repeat (first | refine OpsA.cons ?_ | refine OpsA.nil ?_ | refine OrdA.cons rfl ?_ | refine OrdA.nil ?_ | refine OrdW.cons rfl ?_ | refine OrdW.nil ?_ | refine OrdK.cons rfl ?_ | refine OrdK.nil ?_ | refine OrdN.one rfl ?_ | refine OrdN.nil ?_ | refine Run.textA C_ok (aopC_sound C_ok) ?_ | refine And.intro rfl ?_ | refine And.intro (Nat.le_of_ble_eq_true rfl) ?_ | refine And.intro (Int.natCast_nonneg _) ?_ | refine fun (_ : Nat) => ?_ | refine Ord.go ?_ | refine Run.go rfl ?_ | refine Cont.go rfl ?_ | refine OrdP.go ?_)
  refine ⟨by omega, encX x0, map_at encX e0, ?_⟩
  repeat (first | refine OpsA.cons ?_ | refine OpsA.nil ?_ | refine OrdA.cons rfl ?_ | refine OrdA.nil ?_ | refine OrdW.cons rfl ?_ | refine OrdW.nil ?_ | refine OrdK.cons rfl ?_ | refine OrdK.nil ?_ | refine OrdN.one rfl ?_ | refine OrdN.nil ?_ | refine Run.textA C_ok (aopC_sound C_ok) ?_ | refine And.intro rfl ?_ | refine And.intro (Nat.le_of_ble_eq_true rfl) ?_ | refine And.intro (Int.natCast_nonneg _) ?_ | refine fun (_ : Nat) => ?_ | refine Ord.go ?_ | refine Run.go rfl ?_ | refine Cont.go rfl ?_ | refine OrdP.go ?_)
  refine ⟨fun h2 => ?_, fun h2 => ?_⟩
  · have h2 : ¬ x0.o = 0 := h2
    repeat (first | refine OpsA.cons ?_ | refine OpsA.nil ?_ | refine OrdA.cons rfl ?_ | refine OrdA.nil ?_ | refine OrdW.cons rfl ?_ | refine OrdW.nil ?_ | refine OrdK.cons rfl ?_ | refine OrdK.nil ?_ | refine OrdN.one rfl ?_ | refine OrdN.nil ?_ | refine Run.textA C_ok (aopC_sound C_ok) ?_ | refine And.intro rfl ?_ | refine And.intro (Nat.le_of_ble_eq_true rfl) ?_ | refine And.intro (Int.natCast_nonneg _) ?_ | refine fun (_ : Nat) => ?_ | refine Ord.go ?_ | refine Run.go rfl ?_ | refine Cont.go rfl ?_ | refine OrdP.go ?_)
    exact ⟨_, [], FinOk.drop _ _, no (by rw [et, loadB_bad]; rintro ⟨(⟨_, _, e⟩ | ⟨y, e, _⟩), _⟩; exact h2 e; cases e)⟩
  have h2 : x0.o = 0 := Classical.not_not.1 h2
  repeat (first | refine OpsA.cons ?_ | refine OpsA.nil ?_ | refine OrdA.cons rfl ?_ | refine OrdA.nil ?_ | refine OrdW.cons rfl ?_ | refine OrdW.nil ?_ | refine OrdK.cons rfl ?_ | refine OrdK.nil ?_ | refine OrdN.one rfl ?_ | refine OrdN.nil ?_ | refine Run.textA C_ok (aopC_sound C_ok) ?_ | refine And.intro rfl ?_ | refine And.intro (Nat.le_of_ble_eq_true rfl) ?_ | refine And.intro (Int.natCast_nonneg _) ?_ | refine fun (_ : Nat) => ?_ | refine Ord.go ?_ | refine Run.go rfl ?_ | refine Cont.go rfl ?_ | refine OrdP.go ?_)
  rename_i gm gt
  refine Run.loopW (fun k env L => ∃ (i : Nat) (es : Array MapEntry) (cl : Nat), k = n - i ∧ i ≤ n ∧ TM (all.take i) es cl ∧ (all.take i = [] ∨ TInv (all.take i)) ∧ loadB [] (all.take n) = loadB (all.take i) ((all.take n).drop i) ∧ env = [.ro 7 (all.map encX) n, .junk, .junk, .junk, .ptr 1 gt 0, .junk, .junk, .junk, .junk, .junk, .junk, .junk, .junk, .junk, .junk, .junk, .junk, .junk, .junk, .junk, .junk, .junk, .junk, .junk, .junk, .junk, .junk, .junk, .junk, .junk, .junk, .junk, .junk, .junk, .ro 7 (all.map encX) n, .int .i64 n, .int .i64 i, .junk, .junk, .junk, .junk, .junk, .junk, .junk, .junk, .junk, .junk, .junk, .junk, .junk, .junk, .junk, .junk, .junk, .junk, .junk, .junk, .junk, .junk, .junk, .junk, .junk, .junk, .junk, .junk, .junk, .junk, .junk, .junk, .junk, .junk, .junk, .junk, .junk, .junk, .junk, .junk, .junk, .junk, .junk, .junk, .junk, .junk, .junk, .junk, .junk, .junk, .junk, .junk, .junk, .junk, .junk, .junk] ∧ L = [(gm, .obj (.map es cl)), (gt, .cells tT [.any (.map (some gm))])]) n
    [.ro 7 (all.map encX) n, .junk, .junk, .junk, .ptr 1 gt 0, .junk, .junk, .junk, .junk, .junk, .junk, .junk, .junk, .junk, .junk, .junk, .junk, .junk, .junk, .junk, .junk, .junk, .junk, .junk, .junk, .junk, .junk, .junk, .junk, .junk, .junk, .junk, .junk, .junk, .ro 7 (all.map encX) n, .int .i64 n, .int .i64 (0 : Nat), .junk, .junk, .junk, .junk, .junk, .junk, .junk, .junk, .junk, .junk, .junk, .junk, .junk, .junk, .junk, .junk, .junk, .junk, .junk, .junk, .junk, .junk, .junk, .junk, .junk, .junk, .junk, .junk, .junk, .junk, .junk, .junk, .junk, .junk, .junk, .junk, .junk, .junk, .junk, .junk, .junk, .junk, .junk, .junk, .junk, .junk, .junk, .junk, .junk, .junk, .junk, .junk, .junk, .junk, .junk, .junk] [(gm, .obj (.map #[] 0)), (gt, .cells tT [.any (.map (some gm))])] (Weak.sel ?_ [0, 1] (by decide) ?_) ⟨0, #[], 0, by omega, by omega, ⟨[], .refl _, MapOk.nil⟩, .inl rfl, rfl, rfl, rfl⟩ ?_
  · repeat (first | exact trivial | refine And.intro (Sub.junk _) ?_ | refine And.intro (Sub.refl _) ?_ | refine And.intro (Sub.sl _ _ _ _ _) ?_ | refine And.intro (Sub.ptr _ _ _ _) ?_)
  · repeat (first | exact trivial | refine And.intro rfl ?_ | refine And.intro (SubO.refl _) ?_ | refine And.intro trivial ?_ | refine And.intro (SubO.cells (by repeat (first | exact trivial | refine And.intro (Sub.refl _) ?_ | refine And.intro (Sub.sl _ _ _ _ _) ?_ | refine And.intro (Sub.ptr _ _ _ _) ?_))) ?_)
  rintro k env L ⟨i, es, cl, rfl, hi, hT, hI, hB, rfl, rfl⟩
  repeat (first | refine OpsA.cons ?_ | refine OpsA.nil ?_ | refine OrdA.cons rfl ?_ | refine OrdA.nil ?_ | refine OrdW.cons rfl ?_ | refine OrdW.nil ?_ | refine OrdK.cons rfl ?_ | refine OrdK.nil ?_ | refine OrdN.one rfl ?_ | refine OrdN.nil ?_ | refine Run.textA C_ok (aopC_sound C_ok) ?_ | refine And.intro rfl ?_ | refine And.intro (Nat.le_of_ble_eq_true rfl) ?_ | refine And.intro (Int.natCast_nonneg _) ?_ | refine fun (_ : Nat) => ?_ | refine Ord.go ?_ | refine Run.go rfl ?_ | refine Cont.go rfl ?_ | refine OrdP.go ?_)
  refine ⟨fun h => ?_, fun h => ?_⟩
  · have h : (i : Int) < (n : Int) := h
    obtain ⟨x, ex⟩ : ∃ x, all[i]? = some x := ⟨_, List.getElem?_eq_getElem (by omega)⟩
    have exn : (all.take n)[i]? = some x := by rw [List.getElem?_take_of_lt (by omega)]; exact ex
    have e1 : all.take (i + 1) = all.take i ++ [x] := by
      obtain ⟨h1, e1⟩ := List.getElem?_eq_some_iff.1 ex
      rw [List.take_succ_eq_append_getElem h1, e1]
    have hlt : (all.take i).length = i := by rw [List.length_take]; omega
    rw [drop_at exn] at hB
    have bad1 : ¬ (standsP (all.take i) x ∧ mayP x) → LoadQ (all.take n) (.tuple [.nilp, .int .i64 1]) [] := fun hn => no (by rw [hB, loadB_bad hn])
    repeat (first | refine OpsA.cons ?_ | refine OpsA.nil ?_ | refine OrdA.cons rfl ?_ | refine OrdA.nil ?_ | refine OrdW.cons rfl ?_ | refine OrdW.nil ?_ | refine OrdK.cons rfl ?_ | refine OrdK.nil ?_ | refine OrdN.one rfl ?_ | refine OrdN.nil ?_ | refine Run.textA C_ok (aopC_sound C_ok) ?_ | refine And.intro rfl ?_ | refine And.intro (Nat.le_of_ble_eq_true rfl) ?_ | refine And.intro (Int.natCast_nonneg _) ?_ | refine fun (_ : Nat) => ?_ | refine Ord.go ?_ | refine Run.go rfl ?_ | refine Cont.go rfl ?_ | refine OrdP.go ?_)
    refine ⟨h, encX x, map_at encX ex, ?_⟩
    repeat (first | refine OpsA.cons ?_ | refine OpsA.nil ?_ | refine OrdA.cons rfl ?_ | refine OrdA.nil ?_ | refine OrdW.cons rfl ?_ | refine OrdW.nil ?_ | refine OrdK.cons rfl ?_ | refine OrdK.nil ?_ | refine OrdN.one rfl ?_ | refine OrdN.nil ?_ | refine Run.textA C_ok (aopC_sound C_ok) ?_ | refine And.intro rfl ?_ | refine And.intro (Nat.le_of_ble_eq_true rfl) ?_ | refine And.intro (Int.natCast_nonneg _) ?_ | refine fun (_ : Nat) => ?_ | refine Ord.go ?_ | refine Run.go rfl ?_ | refine Cont.go rfl ?_ | refine OrdP.go ?_)
    refine ACallT.ok (ACall.ret (parent_spec x.p) ?_)
    repeat (first | refine OpsA.cons ?_ | refine OpsA.nil ?_ | refine OrdA.cons rfl ?_ | refine OrdA.nil ?_ | refine OrdW.cons rfl ?_ | refine OrdW.nil ?_ | refine OrdK.cons rfl ?_ | refine OrdK.nil ?_ | refine OrdN.one rfl ?_ | refine OrdN.nil ?_ | refine Run.textA C_ok (aopC_sound C_ok) ?_ | refine And.intro rfl ?_ | refine And.intro (Nat.le_of_ble_eq_true rfl) ?_ | refine And.intro (Int.natCast_nonneg _) ?_ | refine fun (_ : Nat) => ?_ | refine Ord.go ?_ | refine Run.go rfl ?_ | refine Cont.go rfl ?_ | refine OrdP.go ?_)
    refine ⟨fun hp => ?_, fun hp => ?_⟩
    · have hp : 0 < (i : Int) := hp
      have hI : TInv (all.take i) := hI.resolve_left fun e => by rw [e] at hlt; simp at hlt; omega
      obtain ⟨y, ey⟩ : ∃ y, (all.take i).getLast? = some y := ⟨_, List.getLast?_eq_some_getLast fun e => by rw [e] at hlt; simp at hlt; omega⟩
      have eyi : all[i - 1]? = some y := by
        rw [List.getLast?_eq_getElem?, hlt, List.getElem?_take_of_lt (by omega)] at ey
        exact ey
      have nost : (¬ (parentE x.p = 0 ∧ orderB y.p x.p < 0 ∧ ∃ a ∈ all.take i, a.p = parentB x.p ∧ a.o = 0)) → LoadQ (all.take n) (.tuple [.nilp, .int .i64 1]) [] := fun hn => bad1 fun e => by
        rcases e.1 with ⟨e0, _⟩ | ⟨z, ez, e2⟩
        · rw [e0] at ey; cases ey
        · rw [ey] at ez; cases ez; exact hn e2
      have hys : y.p.size ≤ 9223372036854775807 := Nat.le_trans (place_size (hI.ok y (List.mem_of_getLast? ey)).1) (by decide)
      repeat (first | refine OpsA.cons ?_ | refine OpsA.nil ?_ | refine OrdA.cons rfl ?_ | refine OrdA.nil ?_ | refine OrdW.cons rfl ?_ | refine OrdW.nil ?_ | refine OrdK.cons rfl ?_ | refine OrdK.nil ?_ | refine OrdN.one rfl ?_ | refine OrdN.nil ?_ | refine Run.textA C_ok (aopC_sound C_ok) ?_ | refine And.intro rfl ?_ | refine And.intro (Nat.le_of_ble_eq_true rfl) ?_ | refine And.intro (Int.natCast_nonneg _) ?_ | refine fun (_ : Nat) => ?_ | refine Ord.go ?_ | refine Run.go rfl ?_ | refine Cont.go rfl ?_ | refine OrdP.go ?_)
      cases hfa : findF (all.take i) (parentB x.p) with
      | none =>
        have hnost := nost fun e => by obtain ⟨_, _, a, ha, ea, _⟩ := e; exact findF_none hfa a ha ea
        refine ⟨0, es, cl, none, trivial, rfl, hT.miss (findF_none hfa), ?_⟩
        repeat (first | refine OpsA.cons ?_ | refine OpsA.nil ?_ | refine OrdA.cons rfl ?_ | refine OrdA.nil ?_ | refine OrdW.cons rfl ?_ | refine OrdW.nil ?_ | refine OrdK.cons rfl ?_ | refine OrdK.nil ?_ | refine OrdN.one rfl ?_ | refine OrdN.nil ?_ | refine Run.textA C_ok (aopC_sound C_ok) ?_ | refine And.intro rfl ?_ | refine And.intro (Nat.le_of_ble_eq_true rfl) ?_ | refine And.intro (Int.natCast_nonneg _) ?_ | refine fun (_ : Nat) => ?_ | refine Ord.go ?_ | refine Run.go rfl ?_ | refine Cont.go rfl ?_ | refine OrdP.go ?_)
        by_cases hpe : parentE x.p = 0
        · refine Run.drawnK C_ok (aopC_sound C_ok) [2, 3] [0, 1, 2, 3, 4, 5, 6, 7, 8, 9, 10, 11, 12, 13, 14, 15, 16, 17, 18, 19, 20, 21, 22] (by kernel_rfl) ?_
          repeat (first | refine OpsA.cons ?_ | refine OpsA.nil ?_ | refine OrdA.cons rfl ?_ | refine OrdA.nil ?_ | refine OrdW.cons rfl ?_ | refine OrdW.nil ?_ | refine OrdK.cons rfl ?_ | refine OrdK.nil ?_ | refine OrdN.one rfl ?_ | refine OrdN.nil ?_ | refine Run.textA C_ok (aopC_sound C_ok) ?_ | refine And.intro rfl ?_ | refine And.intro (Nat.le_of_ble_eq_true rfl) ?_ | refine And.intro (Int.natCast_nonneg _) ?_ | refine fun (_ : Nat) => ?_ | refine Ord.go ?_ | refine Run.go rfl ?_ | refine Cont.go rfl ?_ | refine OrdP.go ?_)
          refine ⟨fun h => absurd hpe h, fun _ => ?_⟩
          repeat (first | refine OpsA.cons ?_ | refine OpsA.nil ?_ | refine OrdA.cons rfl ?_ | refine OrdA.nil ?_ | refine OrdW.cons rfl ?_ | refine OrdW.nil ?_ | refine OrdK.cons rfl ?_ | refine OrdK.nil ?_ | refine OrdN.one rfl ?_ | refine OrdN.nil ?_ | refine Run.textA C_ok (aopC_sound C_ok) ?_ | refine And.intro rfl ?_ | refine And.intro (Nat.le_of_ble_eq_true rfl) ?_ | refine And.intro (Int.natCast_nonneg _) ?_ | refine fun (_ : Nat) => ?_ | refine Ord.go ?_ | refine Run.go rfl ?_ | refine Cont.go rfl ?_ | refine OrdP.go ?_)
          exact ⟨_, [], FinOk.drop _ _, hnost⟩
        · refine Run.drawnK C_ok (aopC_sound C_ok) [2, 3] [0, 1, 2, 3, 4, 5, 6, 7, 8, 9, 10, 11, 12, 13, 14, 15, 16, 17, 18, 19, 20, 21, 22] (by kernel_rfl) ?_
          repeat (first | refine OpsA.cons ?_ | refine OpsA.nil ?_ | refine OrdA.cons rfl ?_ | refine OrdA.nil ?_ | refine OrdW.cons rfl ?_ | refine OrdW.nil ?_ | refine OrdK.cons rfl ?_ | refine OrdK.nil ?_ | refine OrdN.one rfl ?_ | refine OrdN.nil ?_ | refine Run.textA C_ok (aopC_sound C_ok) ?_ | refine And.intro rfl ?_ | refine And.intro (Nat.le_of_ble_eq_true rfl) ?_ | refine And.intro (Int.natCast_nonneg _) ?_ | refine fun (_ : Nat) => ?_ | refine Ord.go ?_ | refine Run.go rfl ?_ | refine Cont.go rfl ?_ | refine OrdP.go ?_)
          refine ⟨fun _ => ?_, fun h => absurd hpe h⟩
          repeat (first | refine OpsA.cons ?_ | refine OpsA.nil ?_ | refine OrdA.cons rfl ?_ | refine OrdA.nil ?_ | refine OrdW.cons rfl ?_ | refine OrdW.nil ?_ | refine OrdK.cons rfl ?_ | refine OrdK.nil ?_ | refine OrdN.one rfl ?_ | refine OrdN.nil ?_ | refine Run.textA C_ok (aopC_sound C_ok) ?_ | refine And.intro rfl ?_ | refine And.intro (Nat.le_of_ble_eq_true rfl) ?_ | refine And.intro (Int.natCast_nonneg _) ?_ | refine fun (_ : Nat) => ?_ | refine Ord.go ?_ | refine Run.go rfl ?_ | refine Cont.go rfl ?_ | refine OrdP.go ?_)
          exact ⟨_, [], FinOk.drop _ _, nost fun e => hpe e.1⟩
      | some a =>
        obtain ⟨ham, hap⟩ := findF_some hfa
        obtain ⟨ai, g1, g2, g3, g4⟩ := hT.hit2 hI.sorted ham
        rw [hap] at g1
        refine ⟨0, es, cl, some (ai, valX a), trivial, rfl, g1, encX a, rfl, ?_⟩
        repeat (first | refine OpsA.cons ?_ | refine OpsA.nil ?_ | refine OrdA.cons rfl ?_ | refine OrdA.nil ?_ | refine OrdW.cons rfl ?_ | refine OrdW.nil ?_ | refine OrdK.cons rfl ?_ | refine OrdK.nil ?_ | refine OrdN.one rfl ?_ | refine OrdN.nil ?_ | refine Run.textA C_ok (aopC_sound C_ok) ?_ | refine And.intro rfl ?_ | refine And.intro (Nat.le_of_ble_eq_true rfl) ?_ | refine And.intro (Int.natCast_nonneg _) ?_ | refine fun (_ : Nat) => ?_ | refine Ord.go ?_ | refine Run.go rfl ?_ | refine Cont.go rfl ?_ | refine OrdP.go ?_)
        by_cases hpe : parentE x.p = 0
        · refine Run.drawnK C_ok (aopC_sound C_ok) [2, 3] [0, 1, 2, 3, 4, 5, 6, 7, 8, 9, 10, 11, 12, 13, 14, 15, 16, 17, 18, 19, 20, 21, 22] (by kernel_rfl) ?_
          repeat (first | refine OpsA.cons ?_ | refine OpsA.nil ?_ | refine OrdA.cons rfl ?_ | refine OrdA.nil ?_ | refine OrdW.cons rfl ?_ | refine OrdW.nil ?_ | refine OrdK.cons rfl ?_ | refine OrdK.nil ?_ | refine OrdN.one rfl ?_ | refine OrdN.nil ?_ | refine Run.textA C_ok (aopC_sound C_ok) ?_ | refine And.intro rfl ?_ | refine And.intro (Nat.le_of_ble_eq_true rfl) ?_ | refine And.intro (Int.natCast_nonneg _) ?_ | refine fun (_ : Nat) => ?_ | refine Ord.go ?_ | refine Run.go rfl ?_ | refine Cont.go rfl ?_ | refine OrdP.go ?_)
          refine ⟨fun h => absurd hpe h, fun _ => ?_⟩
          repeat (first | refine OpsA.cons ?_ | refine OpsA.nil ?_ | refine OrdA.cons rfl ?_ | refine OrdA.nil ?_ | refine OrdW.cons rfl ?_ | refine OrdW.nil ?_ | refine OrdK.cons rfl ?_ | refine OrdK.nil ?_ | refine OrdN.one rfl ?_ | refine OrdN.nil ?_ | refine Run.textA C_ok (aopC_sound C_ok) ?_ | refine And.intro rfl ?_ | refine And.intro (Nat.le_of_ble_eq_true rfl) ?_ | refine And.intro (Int.natCast_nonneg _) ?_ | refine fun (_ : Nat) => ?_ | refine Ord.go ?_ | refine Run.go rfl ?_ | refine Cont.go rfl ?_ | refine OrdP.go ?_)
          refine ⟨fun ho => ?_, fun ho => ?_⟩
          · have ho : a.o ≠ 0 := ho
            repeat (first | refine OpsA.cons ?_ | refine OpsA.nil ?_ | refine OrdA.cons rfl ?_ | refine OrdA.nil ?_ | refine OrdW.cons rfl ?_ | refine OrdW.nil ?_ | refine OrdK.cons rfl ?_ | refine OrdK.nil ?_ | refine OrdN.one rfl ?_ | refine OrdN.nil ?_ | refine Run.textA C_ok (aopC_sound C_ok) ?_ | refine And.intro rfl ?_ | refine And.intro (Nat.le_of_ble_eq_true rfl) ?_ | refine And.intro (Int.natCast_nonneg _) ?_ | refine fun (_ : Nat) => ?_ | refine Ord.go ?_ | refine Run.go rfl ?_ | refine Cont.go rfl ?_ | refine OrdP.go ?_)
            exact ⟨_, [], FinOk.drop _ _, nost fun e => by obtain ⟨_, _, b, hb, eb, e0⟩ := e; rw [mem_uniq hI.sorted.nodup hb ham (by rw [eb, hap])] at e0; exact ho e0⟩
          have ho : ¬ a.o ≠ 0 := ho
          repeat (first | refine OpsA.cons ?_ | refine OpsA.nil ?_ | refine OrdA.cons rfl ?_ | refine OrdA.nil ?_ | refine OrdW.cons rfl ?_ | refine OrdW.nil ?_ | refine OrdK.cons rfl ?_ | refine OrdK.nil ?_ | refine OrdN.one rfl ?_ | refine OrdN.nil ?_ | refine Run.textA C_ok (aopC_sound C_ok) ?_ | refine And.intro rfl ?_ | refine And.intro (Nat.le_of_ble_eq_true rfl) ?_ | refine And.intro (Int.natCast_nonneg _) ?_ | refine fun (_ : Nat) => ?_ | refine Ord.go ?_ | refine Run.go rfl ?_ | refine Cont.go rfl ?_ | refine OrdP.go ?_)
          refine fun r hr => ?_
          obtain rfl : r = ((i - 1 : Nat) : Int) := by rw [hr, IntKind.wrap_i64]; omega
          repeat (first | refine OpsA.cons ?_ | refine OpsA.nil ?_ | refine OrdA.cons rfl ?_ | refine OrdA.nil ?_ | refine OrdW.cons rfl ?_ | refine OrdW.nil ?_ | refine OrdK.cons rfl ?_ | refine OrdK.nil ?_ | refine OrdN.one rfl ?_ | refine OrdN.nil ?_ | refine Run.textA C_ok (aopC_sound C_ok) ?_ | refine And.intro rfl ?_ | refine And.intro (Nat.le_of_ble_eq_true rfl) ?_ | refine And.intro (Int.natCast_nonneg _) ?_ | refine fun (_ : Nat) => ?_ | refine Ord.go ?_ | refine Run.go rfl ?_ | refine Cont.go rfl ?_ | refine OrdP.go ?_)
          refine ⟨by omega, encX y, map_at encX eyi, ?_⟩
          repeat (first | refine OpsA.cons ?_ | refine OpsA.nil ?_ | refine OrdA.cons rfl ?_ | refine OrdA.nil ?_ | refine OrdW.cons rfl ?_ | refine OrdW.nil ?_ | refine OrdK.cons rfl ?_ | refine OrdK.nil ?_ | refine OrdN.one rfl ?_ | refine OrdN.nil ?_ | refine Run.textA C_ok (aopC_sound C_ok) ?_ | refine And.intro rfl ?_ | refine And.intro (Nat.le_of_ble_eq_true rfl) ?_ | refine And.intro (Int.natCast_nonneg _) ?_ | refine fun (_ : Nat) => ?_ | refine Ord.go ?_ | refine Run.go rfl ?_ | refine Cont.go rfl ?_ | refine OrdP.go ?_)
          refine ACallT.ok (ACall.ret (order_spec y.p x.p hys) ?_)
          repeat (first | refine OpsA.cons ?_ | refine OpsA.nil ?_ | refine OrdA.cons rfl ?_ | refine OrdA.nil ?_ | refine OrdW.cons rfl ?_ | refine OrdW.nil ?_ | refine OrdK.cons rfl ?_ | refine OrdK.nil ?_ | refine OrdN.one rfl ?_ | refine OrdN.nil ?_ | refine Run.textA C_ok (aopC_sound C_ok) ?_ | refine And.intro rfl ?_ | refine And.intro (Nat.le_of_ble_eq_true rfl) ?_ | refine And.intro (Int.natCast_nonneg _) ?_ | refine fun (_ : Nat) => ?_ | refine Ord.go ?_ | refine Run.go rfl ?_ | refine Cont.go rfl ?_ | refine OrdP.go ?_)
          refine ⟨fun hge => ?_, fun hge => ?_⟩
          · have hge : orderB y.p x.p ≥ 0 := hge
            repeat (first | refine OpsA.cons ?_ | refine OpsA.nil ?_ | refine OrdA.cons rfl ?_ | refine OrdA.nil ?_ | refine OrdW.cons rfl ?_ | refine OrdW.nil ?_ | refine OrdK.cons rfl ?_ | refine OrdK.nil ?_ | refine OrdN.one rfl ?_ | refine OrdN.nil ?_ | refine Run.textA C_ok (aopC_sound C_ok) ?_ | refine And.intro rfl ?_ | refine And.intro (Nat.le_of_ble_eq_true rfl) ?_ | refine And.intro (Int.natCast_nonneg _) ?_ | refine fun (_ : Nat) => ?_ | refine Ord.go ?_ | refine Run.go rfl ?_ | refine Cont.go rfl ?_ | refine OrdP.go ?_)
            exact ⟨_, [], FinOk.drop _ _, nost fun e => by have := e.2.1; omega⟩
          have hge : ¬ orderB y.p x.p ≥ 0 := hge
          have hst : standsP (all.take i) x := .inr ⟨y, ey, hpe, by omega, a, ham, hap, Classical.not_not.1 ho⟩
          have hfar : ∀ z ∈ all.take i, z.p ≠ x.p := fun z hz e => by
            obtain ⟨ys, eys⟩ := List.getLast?_eq_some_iff.1 ey
            rw [eys] at hz
            have hs := hI.sorted
            rw [eys] at hs
            have hzy : z = y ∨ orderB z.p y.p < 0 := by
              rcases List.mem_append.1 hz with hz | hz
              · exact .inr ((List.pairwise_append.1 hs).2.2 z hz y (by simp))
              · simp only [List.mem_singleton] at hz; exact .inl hz
            rcases hzy with rfl | hzy
            · rw [e] at hge; exact hge (by have : orderB x.p x.p = 0 := orderB_eq.2 rfl; omega)
            · have := orderB_trans hzy (by omega : orderB y.p x.p < 0)
              rw [e] at this; exact orderB_irrefl _ this
          repeat (first | refine OpsA.cons ?_ | refine OpsA.nil ?_ | refine OrdA.cons rfl ?_ | refine OrdA.nil ?_ | refine OrdW.cons rfl ?_ | refine OrdW.nil ?_ | refine OrdK.cons rfl ?_ | refine OrdK.nil ?_ | refine OrdN.one rfl ?_ | refine OrdN.nil ?_ | refine Run.textA C_ok (aopC_sound C_ok) ?_ | refine And.intro rfl ?_ | refine And.intro (Nat.le_of_ble_eq_true rfl) ?_ | refine And.intro (Int.natCast_nonneg _) ?_ | refine fun (_ : Nat) => ?_ | refine Ord.go ?_ | refine Run.go rfl ?_ | refine Cont.go rfl ?_ | refine OrdP.go ?_)
          refine ACallT.ok (ACall.ret (may_spec x) ?_)
          by_cases hm : mayP x
          · rw [decide_eq_true hm]
            repeat (first | refine OpsA.cons ?_ | refine OpsA.nil ?_ | refine OrdA.cons rfl ?_ | refine OrdA.nil ?_ | refine OrdW.cons rfl ?_ | refine OrdW.nil ?_ | refine OrdK.cons rfl ?_ | refine OrdK.nil ?_ | refine OrdN.one rfl ?_ | refine OrdN.nil ?_ | refine Run.textA C_ok (aopC_sound C_ok) ?_ | refine And.intro rfl ?_ | refine And.intro (Nat.le_of_ble_eq_true rfl) ?_ | refine And.intro (Int.natCast_nonneg _) ?_ | refine fun (_ : Nat) => ?_ | refine Ord.go ?_ | refine Run.go rfl ?_ | refine Cont.go rfl ?_ | refine OrdP.go ?_)
            refine Run.drawnA C_ok (aopC_sound C_ok) [1, 2] [7] [0, 1, 2, 4, 3, 5, 6] (by kernel_rfl) (by kernel_rfl) ?_
            repeat (first | refine OpsA.cons ?_ | refine OpsA.nil ?_ | refine OrdA.cons rfl ?_ | refine OrdA.nil ?_ | refine OrdW.cons rfl ?_ | refine OrdW.nil ?_ | refine OrdK.cons rfl ?_ | refine OrdK.nil ?_ | refine OrdN.one rfl ?_ | refine OrdN.nil ?_ | refine Run.textA C_ok (aopC_sound C_ok) ?_ | refine And.intro rfl ?_ | refine And.intro (Nat.le_of_ble_eq_true rfl) ?_ | refine And.intro (Int.natCast_nonneg _) ?_ | refine fun (_ : Nat) => ?_ | refine Ord.go ?_ | refine Run.go rfl ?_ | refine Cont.go rfl ?_ | refine OrdP.go ?_)
            refine ⟨0, es, cl, none, rfl, hT.miss hfar, ?_⟩
            repeat (first | refine OpsA.cons ?_ | refine OpsA.nil ?_ | refine OrdA.cons rfl ?_ | refine OrdA.nil ?_ | refine OrdW.cons rfl ?_ | refine OrdW.nil ?_ | refine OrdK.cons rfl ?_ | refine OrdK.nil ?_ | refine OrdN.one rfl ?_ | refine OrdN.nil ?_ | refine Run.textA C_ok (aopC_sound C_ok) ?_ | refine And.intro rfl ?_ | refine And.intro (Nat.le_of_ble_eq_true rfl) ?_ | refine And.intro (Int.natCast_nonneg _) ?_ | refine fun (_ : Nat) => ?_ | refine Ord.go ?_ | refine Run.go rfl ?_ | refine Cont.go rfl ?_ | refine OrdP.go ?_)
            refine fun r hr => ?_
            obtain rfl := add1 hr (by omega)
            repeat (first | refine OpsA.cons ?_ | refine OpsA.nil ?_ | refine OrdA.cons rfl ?_ | refine OrdA.nil ?_ | refine OrdW.cons rfl ?_ | refine OrdW.nil ?_ | refine OrdK.cons rfl ?_ | refine OrdK.nil ?_ | refine OrdN.one rfl ?_ | refine OrdN.nil ?_ | refine Run.textA C_ok (aopC_sound C_ok) ?_ | refine And.intro rfl ?_ | refine And.intro (Nat.le_of_ble_eq_true rfl) ?_ | refine And.intro (Int.natCast_nonneg _) ?_ | refine fun (_ : Nat) => ?_ | refine Ord.go ?_ | refine Run.go rfl ?_ | refine Cont.go rfl ?_ | refine OrdP.go ?_)
            refine Cont.lpW ?_
            refine ⟨n - (i + 1), _, _, by omega, Weak.sel ?_ [0, 1] (by decide) ?_, ⟨i + 1, _, cl + 1, rfl, by omega, by rw [e1]; exact hT.push hfar List.perm_append_comm, .inr (by rw [e1]; exact stands_inv (.inr hI) (by omega) hst hm), by rw [hB, loadB_good ⟨hst, hm⟩, e1], rfl, rfl⟩⟩
            · repeat (first | exact trivial | refine And.intro (Sub.junk _) ?_ | refine And.intro (Sub.refl _) ?_ | refine And.intro (Sub.sl _ _ _ _ _) ?_ | refine And.intro (Sub.ptr _ _ _ _) ?_)
            · repeat (first | exact trivial | refine And.intro rfl ?_ | refine And.intro (SubO.refl _) ?_ | refine And.intro trivial ?_ | refine And.intro (SubO.cells (by repeat (first | exact trivial | refine And.intro (Sub.refl _) ?_ | refine And.intro (Sub.sl _ _ _ _ _) ?_ | refine And.intro (Sub.ptr _ _ _ _) ?_))) ?_)
          · rw [decide_eq_false hm]
            repeat (first | refine OpsA.cons ?_ | refine OpsA.nil ?_ | refine OrdA.cons rfl ?_ | refine OrdA.nil ?_ | refine OrdW.cons rfl ?_ | refine OrdW.nil ?_ | refine OrdK.cons rfl ?_ | refine OrdK.nil ?_ | refine OrdN.one rfl ?_ | refine OrdN.nil ?_ | refine Run.textA C_ok (aopC_sound C_ok) ?_ | refine And.intro rfl ?_ | refine And.intro (Nat.le_of_ble_eq_true rfl) ?_ | refine And.intro (Int.natCast_nonneg _) ?_ | refine fun (_ : Nat) => ?_ | refine Ord.go ?_ | refine Run.go rfl ?_ | refine Cont.go rfl ?_ | refine OrdP.go ?_)
            exact ⟨_, [], FinOk.drop _ _, bad1 fun e => hm e.2⟩
        · refine Run.drawnK C_ok (aopC_sound C_ok) [2, 3] [0, 1, 2, 3, 4, 5, 6, 7, 8, 9, 10, 11, 12, 13, 14, 15, 16, 17, 18, 19, 20, 21, 22] (by kernel_rfl) ?_
          repeat (first | refine OpsA.cons ?_ | refine OpsA.nil ?_ | refine OrdA.cons rfl ?_ | refine OrdA.nil ?_ | refine OrdW.cons rfl ?_ | refine OrdW.nil ?_ | refine OrdK.cons rfl ?_ | refine OrdK.nil ?_ | refine OrdN.one rfl ?_ | refine OrdN.nil ?_ | refine Run.textA C_ok (aopC_sound C_ok) ?_ | refine And.intro rfl ?_ | refine And.intro (Nat.le_of_ble_eq_true rfl) ?_ | refine And.intro (Int.natCast_nonneg _) ?_ | refine fun (_ : Nat) => ?_ | refine Ord.go ?_ | refine Run.go rfl ?_ | refine Cont.go rfl ?_ | refine OrdP.go ?_)
          refine ⟨fun _ => ?_, fun h => absurd hpe h⟩
          repeat (first | refine OpsA.cons ?_ | refine OpsA.nil ?_ | refine OrdA.cons rfl ?_ | refine OrdA.nil ?_ | refine OrdW.cons rfl ?_ | refine OrdW.nil ?_ | refine OrdK.cons rfl ?_ | refine OrdK.nil ?_ | refine OrdN.one rfl ?_ | refine OrdN.nil ?_ | refine Run.textA C_ok (aopC_sound C_ok) ?_ | refine And.intro rfl ?_ | refine And.intro (Nat.le_of_ble_eq_true rfl) ?_ | refine And.intro (Int.natCast_nonneg _) ?_ | refine fun (_ : Nat) => ?_ | refine Ord.go ?_ | refine Run.go rfl ?_ | refine Cont.go rfl ?_ | refine OrdP.go ?_)
          exact ⟨_, [], FinOk.drop _ _, nost fun e => hpe e.1⟩
    · have hp : ¬ 0 < (i : Int) := hp
      have hi0 : i = 0 := by omega
      subst hi0
      obtain rfl : x0 = x := Option.some.inj (e0.symm.trans ex)
      have hst : standsP (all.take 0) x0 := .inl ⟨rfl, h1, h2⟩
      repeat (first | refine OpsA.cons ?_ | refine OpsA.nil ?_ | refine OrdA.cons rfl ?_ | refine OrdA.nil ?_ | refine OrdW.cons rfl ?_ | refine OrdW.nil ?_ | refine OrdK.cons rfl ?_ | refine OrdK.nil ?_ | refine OrdN.one rfl ?_ | refine OrdN.nil ?_ | refine Run.textA C_ok (aopC_sound C_ok) ?_ | refine And.intro rfl ?_ | refine And.intro (Nat.le_of_ble_eq_true rfl) ?_ | refine And.intro (Int.natCast_nonneg _) ?_ | refine fun (_ : Nat) => ?_ | refine Ord.go ?_ | refine Run.go rfl ?_ | refine Cont.go rfl ?_ | refine OrdP.go ?_)
      refine ACallT.ok (ACall.ret (may_spec x0) ?_)
      by_cases hm : mayP x0
      · rw [decide_eq_true hm]
        have hfar : ∀ y ∈ all.take 0, y.p ≠ x0.p := fun y hy => by cases hy
        repeat (first | refine OpsA.cons ?_ | refine OpsA.nil ?_ | refine OrdA.cons rfl ?_ | refine OrdA.nil ?_ | refine OrdW.cons rfl ?_ | refine OrdW.nil ?_ | refine OrdK.cons rfl ?_ | refine OrdK.nil ?_ | refine OrdN.one rfl ?_ | refine OrdN.nil ?_ | refine Run.textA C_ok (aopC_sound C_ok) ?_ | refine And.intro rfl ?_ | refine And.intro (Nat.le_of_ble_eq_true rfl) ?_ | refine And.intro (Int.natCast_nonneg _) ?_ | refine fun (_ : Nat) => ?_ | refine Ord.go ?_ | refine Run.go rfl ?_ | refine Cont.go rfl ?_ | refine OrdP.go ?_)
        refine Run.drawnA C_ok (aopC_sound C_ok) [1, 2] [7] [0, 1, 2, 4, 3, 5, 6] (by kernel_rfl) (by kernel_rfl) ?_
        repeat (first | refine OpsA.cons ?_ | refine OpsA.nil ?_ | refine OrdA.cons rfl ?_ | refine OrdA.nil ?_ | refine OrdW.cons rfl ?_ | refine OrdW.nil ?_ | refine OrdK.cons rfl ?_ | refine OrdK.nil ?_ | refine OrdN.one rfl ?_ | refine OrdN.nil ?_ | refine Run.textA C_ok (aopC_sound C_ok) ?_ | refine And.intro rfl ?_ | refine And.intro (Nat.le_of_ble_eq_true rfl) ?_ | refine And.intro (Int.natCast_nonneg _) ?_ | refine fun (_ : Nat) => ?_ | refine Ord.go ?_ | refine Run.go rfl ?_ | refine Cont.go rfl ?_ | refine OrdP.go ?_)
        refine ⟨0, es, cl, none, rfl, hT.miss hfar, ?_⟩
        repeat (first | refine OpsA.cons ?_ | refine OpsA.nil ?_ | refine OrdA.cons rfl ?_ | refine OrdA.nil ?_ | refine OrdW.cons rfl ?_ | refine OrdW.nil ?_ | refine OrdK.cons rfl ?_ | refine OrdK.nil ?_ | refine OrdN.one rfl ?_ | refine OrdN.nil ?_ | refine Run.textA C_ok (aopC_sound C_ok) ?_ | refine And.intro rfl ?_ | refine And.intro (Nat.le_of_ble_eq_true rfl) ?_ | refine And.intro (Int.natCast_nonneg _) ?_ | refine fun (_ : Nat) => ?_ | refine Ord.go ?_ | refine Run.go rfl ?_ | refine Cont.go rfl ?_ | refine OrdP.go ?_)
        refine fun r hr => ?_
        obtain rfl := add1 hr (by omega)
        repeat (first | refine OpsA.cons ?_ | refine OpsA.nil ?_ | refine OrdA.cons rfl ?_ | refine OrdA.nil ?_ | refine OrdW.cons rfl ?_ | refine OrdW.nil ?_ | refine OrdK.cons rfl ?_ | refine OrdK.nil ?_ | refine OrdN.one rfl ?_ | refine OrdN.nil ?_ | refine Run.textA C_ok (aopC_sound C_ok) ?_ | refine And.intro rfl ?_ | refine And.intro (Nat.le_of_ble_eq_true rfl) ?_ | refine And.intro (Int.natCast_nonneg _) ?_ | refine fun (_ : Nat) => ?_ | refine Ord.go ?_ | refine Run.go rfl ?_ | refine Cont.go rfl ?_ | refine OrdP.go ?_)
        refine Cont.lpW ?_
        refine ⟨n - (0 + 1), _, _, by omega, Weak.sel ?_ [0, 1] (by decide) ?_, ⟨0 + 1, _, cl + 1, rfl, by omega, by rw [e1]; exact hT.push hfar List.perm_append_comm, .inr (by rw [e1]; exact stands_inv hI (by omega) hst hm), by rw [hB, loadB_good ⟨hst, hm⟩, e1], rfl, rfl⟩⟩
        · repeat (first | exact trivial | refine And.intro (Sub.junk _) ?_ | refine And.intro (Sub.refl _) ?_ | refine And.intro (Sub.sl _ _ _ _ _) ?_ | refine And.intro (Sub.ptr _ _ _ _) ?_)
        · repeat (first | exact trivial | refine And.intro rfl ?_ | refine And.intro (SubO.refl _) ?_ | refine And.intro trivial ?_ | refine And.intro (SubO.cells (by repeat (first | exact trivial | refine And.intro (Sub.refl _) ?_ | refine And.intro (Sub.sl _ _ _ _ _) ?_ | refine And.intro (Sub.ptr _ _ _ _) ?_))) ?_)
      · rw [decide_eq_false hm]
        repeat (first | refine OpsA.cons ?_ | refine OpsA.nil ?_ | refine OrdA.cons rfl ?_ | refine OrdA.nil ?_ | refine OrdW.cons rfl ?_ | refine OrdW.nil ?_ | refine OrdK.cons rfl ?_ | refine OrdK.nil ?_ | refine OrdN.one rfl ?_ | refine OrdN.nil ?_ | refine Run.textA C_ok (aopC_sound C_ok) ?_ | refine And.intro rfl ?_ | refine And.intro (Nat.le_of_ble_eq_true rfl) ?_ | refine And.intro (Int.natCast_nonneg _) ?_ | refine fun (_ : Nat) => ?_ | refine Ord.go ?_ | refine Run.go rfl ?_ | refine Cont.go rfl ?_ | refine OrdP.go ?_)
        exact ⟨_, [], FinOk.drop _ _, bad1 fun e => hm e.2⟩
  · have h : ¬ (i : Int) < (n : Int) := h
    have ei : i = n := by omega
    subst ei
    rw [List.drop_of_length_le (by omega)] at hB
    have hB : loadB [] (all.take i) = true := hB
    have hI : TInv (all.take i) := hI.resolve_left hne
    repeat (first | refine OpsA.cons ?_ | refine OpsA.nil ?_ | refine OrdA.cons rfl ?_ | refine OrdA.nil ?_ | refine OrdW.cons rfl ?_ | refine OrdW.nil ?_ | refine OrdK.cons rfl ?_ | refine OrdK.nil ?_ | refine OrdN.one rfl ?_ | refine OrdN.nil ?_ | refine Run.textA C_ok (aopC_sound C_ok) ?_ | refine And.intro rfl ?_ | refine And.intro (Nat.le_of_ble_eq_true rfl) ?_ | refine And.intro (Int.natCast_nonneg _) ?_ | refine fun (_ : Nat) => ?_ | refine Ord.go ?_ | refine Run.go rfl ?_ | refine Cont.go rfl ?_ | refine OrdP.go ?_)
    exact ⟨.tuple [.ptr 0 gt 0, .int .i64 0], TreeL gt gm es cl, FinOk.keep _ [1, 0] (Sub.tuples ⟨Sub.ptr _ _ _ _, Sub.refl _, trivial⟩) (by decide) rfl, .inl ⟨hI.loadE, hI, gt, gm, es, cl, hT, rfl, rfl⟩⟩
end Go.Proofs.YtiikjcdjgmlcgaaDoor.HBT
/- The law TreeAll, walked. -/
namespace Go.Proofs.YtiikjcdjgmlcgaaDoor.HBT
open Go Go.Proofs.YtiikjcdjgmlcgaaDoor.HB Go.RowKit
set_option maxRecDepth 8000

set_option maxHeartbeats 2000000 in
theorem lawRefused_spec {l : List Fu} (hI : TInv l) (x : Stp) (hx : x.ok) (hc : (playR l x.s x.st (x.ops.take x.no)).2.1.code ≠ 0) :
    FnSpec C 22 [rdX l, rdX l, encS x, encP (playR l x.s x.st (x.ops.take x.no)).2.1, encCs (playR l x.s x.st (x.ops.take x.no)).2.2] [] (fun r L' => r = .bool true ∧ L' = []) := by
  obtain ⟨q1, _, q3⟩ := playR_all l x.s x.st (x.ops.take x.no)
  obtain ⟨_, e2, e3, n, e4, hn⟩ := q3 hc
  have hlen : (x.ops.take x.no).length = x.no := by rw [List.length_take]; have := hx; unfold Stp.ok at this; omega
  have hL := hI.len
  obtain ⟨code, ecode⟩ : ∃ code, code = (playR l x.s x.st (x.ops.take x.no)).2.1.code := ⟨_, rfl⟩
  rw [← ecode] at hc
  have ep : encP (playR l x.s x.st (x.ops.take x.no)).2.1 = .agg [.int .i64 x.st, .int .i64 code, .int .i64 (n : Nat), .ro 7 [] 0] := by
    show AV.agg [_, _, _, _] = _
    rw [q1, e3, e4, ← ecode]
    rfl
  rw [ep, e2]
  have hs := same_spec l l (by omega)
  rw [decide_eq_true rfl] at hs
  refine FnSpec.start C_ok Tryd.func22 rfl rfl Tryd.ntmps22 ?_
  repeat (first | refine OpsA.cons ?_ | refine OpsA.nil ?_ | refine OrdA.cons rfl ?_ | refine OrdA.nil ?_ | refine OrdW.cons rfl ?_ | refine OrdW.nil ?_ | refine OrdK.cons rfl ?_ | refine OrdK.nil ?_ | refine OrdN.one rfl ?_ | refine OrdN.nil ?_ | refine Run.textA C_ok (aopC_sound C_ok) ?_ | refine And.intro rfl ?_ | refine And.intro (Nat.le_of_ble_eq_true rfl) ?_ | refine And.intro (Int.natCast_nonneg _) ?_ | refine fun (_ : Nat) => ?_ | refine Ord.go ?_ | refine Run.go rfl ?_ | refine Cont.go rfl ?_ | refine OrdP.go ?_)
  rename_i g7 g8
  refine ACallT.ok (ACall.ret hs ?_)
  repeat (first | refine OpsA.cons ?_ | refine OpsA.nil ?_ | refine OrdA.cons rfl ?_ | refine OrdA.nil ?_ | refine OrdW.cons rfl ?_ | refine OrdW.nil ?_ | refine OrdK.cons rfl ?_ | refine OrdK.nil ?_ | refine OrdN.one rfl ?_ | refine OrdN.nil ?_ | refine Run.textA C_ok (aopC_sound C_ok) ?_ | refine And.intro rfl ?_ | refine And.intro (Nat.le_of_ble_eq_true rfl) ?_ | refine And.intro (Int.natCast_nonneg _) ?_ | refine fun (_ : Nat) => ?_ | refine Ord.go ?_ | refine Run.go rfl ?_ | refine Cont.go rfl ?_ | refine OrdP.go ?_)
  refine ⟨fun h => absurd rfl h, fun _ => ?_⟩
  repeat (first | refine OpsA.cons ?_ | refine OpsA.nil ?_ | refine OrdA.cons rfl ?_ | refine OrdA.nil ?_ | refine OrdW.cons rfl ?_ | refine OrdW.nil ?_ | refine OrdK.cons rfl ?_ | refine OrdK.nil ?_ | refine OrdN.one rfl ?_ | refine OrdN.nil ?_ | refine Run.textA C_ok (aopC_sound C_ok) ?_ | refine And.intro rfl ?_ | refine And.intro (Nat.le_of_ble_eq_true rfl) ?_ | refine And.intro (Int.natCast_nonneg _) ?_ | refine fun (_ : Nat) => ?_ | refine Ord.go ?_ | refine Run.go rfl ?_ | refine Cont.go rfl ?_ | refine OrdP.go ?_)
  refine ⟨fun h => absurd rfl h, fun _ => ?_⟩
  repeat (first | refine OpsA.cons ?_ | refine OpsA.nil ?_ | refine OrdA.cons rfl ?_ | refine OrdA.nil ?_ | refine OrdW.cons rfl ?_ | refine OrdW.nil ?_ | refine OrdK.cons rfl ?_ | refine OrdK.nil ?_ | refine OrdN.one rfl ?_ | refine OrdN.nil ?_ | refine Run.textA C_ok (aopC_sound C_ok) ?_ | refine And.intro rfl ?_ | refine And.intro (Nat.le_of_ble_eq_true rfl) ?_ | refine And.intro (Int.natCast_nonneg _) ?_ | refine fun (_ : Nat) => ?_ | refine Ord.go ?_ | refine Run.go rfl ?_ | refine Cont.go rfl ?_ | refine OrdP.go ?_)
  refine ⟨fun h => absurd h (show ¬ (n : Int) < 0 by omega), fun _ => ?_⟩
  repeat (first | refine OpsA.cons ?_ | refine OpsA.nil ?_ | refine OrdA.cons rfl ?_ | refine OrdA.nil ?_ | refine OrdW.cons rfl ?_ | refine OrdW.nil ?_ | refine OrdK.cons rfl ?_ | refine OrdK.nil ?_ | refine OrdN.one rfl ?_ | refine OrdN.nil ?_ | refine Run.textA C_ok (aopC_sound C_ok) ?_ | refine And.intro rfl ?_ | refine And.intro (Nat.le_of_ble_eq_true rfl) ?_ | refine And.intro (Int.natCast_nonneg _) ?_ | refine fun (_ : Nat) => ?_ | refine Ord.go ?_ | refine Run.go rfl ?_ | refine Cont.go rfl ?_ | refine OrdP.go ?_)
  by_cases hn0 : n = 0
  · subst hn0
    refine ⟨fun h => absurd h (by decide), fun _ => ?_⟩
    repeat (first | refine OpsA.cons ?_ | refine OpsA.nil ?_ | refine OrdA.cons rfl ?_ | refine OrdA.nil ?_ | refine OrdW.cons rfl ?_ | refine OrdW.nil ?_ | refine OrdK.cons rfl ?_ | refine OrdK.nil ?_ | refine OrdN.one rfl ?_ | refine OrdN.nil ?_ | refine Run.textA C_ok (aopC_sound C_ok) ?_ | refine And.intro rfl ?_ | refine And.intro (Nat.le_of_ble_eq_true rfl) ?_ | refine And.intro (Int.natCast_nonneg _) ?_ | refine fun (_ : Nat) => ?_ | refine Ord.go ?_ | refine Run.go rfl ?_ | refine Cont.go rfl ?_ | refine OrdP.go ?_)
    refine ⟨fun _ => ?_, fun h => absurd rfl h⟩
    repeat (first | refine OpsA.cons ?_ | refine OpsA.nil ?_ | refine OrdA.cons rfl ?_ | refine OrdA.nil ?_ | refine OrdW.cons rfl ?_ | refine OrdW.nil ?_ | refine OrdK.cons rfl ?_ | refine OrdK.nil ?_ | refine OrdN.one rfl ?_ | refine OrdN.nil ?_ | refine Run.textA C_ok (aopC_sound C_ok) ?_ | refine And.intro rfl ?_ | refine And.intro (Nat.le_of_ble_eq_true rfl) ?_ | refine And.intro (Int.natCast_nonneg _) ?_ | refine fun (_ : Nat) => ?_ | refine Ord.go ?_ | refine Run.go rfl ?_ | refine Cont.go rfl ?_ | refine OrdP.go ?_)
    exact ⟨_, [], FinOk.drop _ _, rfl, rfl⟩
  obtain ⟨hn1, hn2, hn3⟩ := hn.resolve_left hn0
  have hxn : x.no ≤ x.ops.length := hx
  have ett : (x.ops.take x.no).take n = x.ops.take n := by rw [List.take_take, Nat.min_eq_left (by omega)]
  rw [ett] at hn2 hn3
  obtain ⟨rs, hrs, erep⟩ : ∃ rs : List Res, rs.length = n ∧ (playR l x.s x.st (x.ops.take n)).2.1 = ⟨x.st, 0, 0, rs⟩ := by
    obtain ⟨w1, w2, _⟩ := playR_all l x.s x.st (x.ops.take n)
    obtain ⟨w3, _⟩ := w2 hn2
    refine ⟨(playR l x.s x.st (x.ops.take n)).2.1.rs, hn3, ?_⟩
    generalize (playR l x.s x.st (x.ops.take n)).2.1 = rep at w1 w3 hn2
    cases rep
    simp only at w1 w3 hn2
    subst w1; subst w3; subst hn2
    rfl
  refine ⟨fun h => ?_, fun h => absurd (show (0 : Int) < (n : Int) by omega) h⟩
  repeat (first | refine OpsA.cons ?_ | refine OpsA.nil ?_ | refine OrdA.cons rfl ?_ | refine OrdA.nil ?_ | refine OrdW.cons rfl ?_ | refine OrdW.nil ?_ | refine OrdK.cons rfl ?_ | refine OrdK.nil ?_ | refine OrdN.one rfl ?_ | refine OrdN.nil ?_ | refine Run.textA C_ok (aopC_sound C_ok) ?_ | refine And.intro rfl ?_ | refine And.intro (Nat.le_of_ble_eq_true rfl) ?_ | refine And.intro (Int.natCast_nonneg _) ?_ | refine fun (_ : Nat) => ?_ | refine Ord.go ?_ | refine Run.go rfl ?_ | refine Cont.go rfl ?_ | refine OrdP.go ?_)
  refine ⟨fun h => absurd h (show ¬ (n : Int) ≥ (x.no : Int) by omega), fun _ => ?_⟩
  repeat (first | refine OpsA.cons ?_ | refine OpsA.nil ?_ | refine OrdA.cons rfl ?_ | refine OrdA.nil ?_ | refine OrdW.cons rfl ?_ | refine OrdW.nil ?_ | refine OrdK.cons rfl ?_ | refine OrdK.nil ?_ | refine OrdN.one rfl ?_ | refine OrdN.nil ?_ | refine Run.textA C_ok (aopC_sound C_ok) ?_ | refine And.intro rfl ?_ | refine And.intro (Nat.le_of_ble_eq_true rfl) ?_ | refine And.intro (Int.natCast_nonneg _) ?_ | refine fun (_ : Nat) => ?_ | refine Ord.go ?_ | refine Run.go rfl ?_ | refine Cont.go rfl ?_ | refine OrdP.go ?_)
  refine ⟨fun h => absurd h (show ¬ (n : Int) = 0 by omega), fun _ => ?_⟩
  repeat (first | refine OpsA.cons ?_ | refine OpsA.nil ?_ | refine OrdA.cons rfl ?_ | refine OrdA.nil ?_ | refine OrdW.cons rfl ?_ | refine OrdW.nil ?_ | refine OrdK.cons rfl ?_ | refine OrdK.nil ?_ | refine OrdN.one rfl ?_ | refine OrdN.nil ?_ | refine Run.textA C_ok (aopC_sound C_ok) ?_ | refine And.intro rfl ?_ | refine And.intro (Nat.le_of_ble_eq_true rfl) ?_ | refine And.intro (Int.natCast_nonneg _) ?_ | refine fun (_ : Nat) => ?_ | refine Ord.go ?_ | refine Run.go rfl ?_ | refine Cont.go rfl ?_ | refine OrdP.go ?_)
  have hld := load_spec l l.length (Nat.le_refl _)
  rw [List.take_length] at hld
  refine ACallT.ok (ACall.pure _ hld ?_)
  rintro r L' (⟨_, _, gt, gm, es, cl, hT, rfl, rfl⟩ | ⟨h, _, _⟩)
  rotate_left
  · exact absurd hI.loadE h
  refine ⟨_, Sub.refl _, ?_⟩
  repeat (first | refine OpsA.cons ?_ | refine OpsA.nil ?_ | refine OrdA.cons rfl ?_ | refine OrdA.nil ?_ | refine OrdW.cons rfl ?_ | refine OrdW.nil ?_ | refine OrdK.cons rfl ?_ | refine OrdK.nil ?_ | refine OrdN.one rfl ?_ | refine OrdN.nil ?_ | refine Run.textA C_ok (aopC_sound C_ok) ?_ | refine And.intro rfl ?_ | refine And.intro (Nat.le_of_ble_eq_true rfl) ?_ | refine And.intro (Int.natCast_nonneg _) ?_ | refine fun (_ : Nat) => ?_ | refine Ord.go ?_ | refine Run.go rfl ?_ | refine Cont.go rfl ?_ | refine OrdP.go ?_)
  refine ACallT.ok (ACall.ret (num_spec 0) ?_)
  repeat (first | refine OpsA.cons ?_ | refine OpsA.nil ?_ | refine OrdA.cons rfl ?_ | refine OrdA.nil ?_ | refine OrdW.cons rfl ?_ | refine OrdW.nil ?_ | refine OrdK.cons rfl ?_ | refine OrdK.nil ?_ | refine OrdN.one rfl ?_ | refine OrdN.nil ?_ | refine Run.textA C_ok (aopC_sound C_ok) ?_ | refine And.intro rfl ?_ | refine And.intro (Nat.le_of_ble_eq_true rfl) ?_ | refine And.intro (Int.natCast_nonneg _) ?_ | refine fun (_ : Nat) => ?_ | refine Ord.go ?_ | refine Run.go rfl ?_ | refine Cont.go rfl ?_ | refine OrdP.go ?_)
  refine ⟨fun h => absurd rfl h, fun _ => ?_⟩
  repeat (first | refine OpsA.cons ?_ | refine OpsA.nil ?_ | refine OrdA.cons rfl ?_ | refine OrdA.nil ?_ | refine OrdW.cons rfl ?_ | refine OrdW.nil ?_ | refine OrdK.cons rfl ?_ | refine OrdK.nil ?_ | refine OrdN.one rfl ?_ | refine OrdN.nil ?_ | refine Run.textA C_ok (aopC_sound C_ok) ?_ | refine And.intro rfl ?_ | refine And.intro (Nat.le_of_ble_eq_true rfl) ?_ | refine And.intro (Int.natCast_nonneg _) ?_ | refine fun (_ : Nat) => ?_ | refine Ord.go ?_ | refine Run.go rfl ?_ | refine Cont.go rfl ?_ | refine OrdP.go ?_)
  refine Run.join C_ok (fun env L => ∃ gr, env = [.junk, .junk, .junk, .junk, .junk, .junk, .junk, .junk, .ptr 0 g8 0, .junk, .junk, .junk, .junk, .ptr 1 gr 0, .junk, .junk, .junk, .junk, .junk, .junk, .junk, .junk, .junk, .junk, .junk, .junk, .junk, .junk, .junk, .junk, .junk, .junk, .junk, .junk, .junk, .junk, .junk, .junk, .junk, .junk, .junk, .junk, .junk, .junk, .junk, .junk, .junk, .junk, .junk, .junk, .junk, .junk, .junk, .junk, .junk, .junk, .junk, .junk, .junk, .junk, .junk, .junk, .junk, .junk, .junk, .junk, .junk, .junk, .junk, .junk, .junk, .junk, .junk, .junk, .junk, .junk, .junk, .junk, .junk, .junk, .junk, .junk, .junk, .junk, .junk, .junk, .junk, .junk, .junk] ∧ L = [(g8, .cells tP [.int .i64 x.st, .int .i64 code, .int .i64 (n : Nat), .ro 7 [] 0]), (gr, .cells tP [.int .i64 x.st, .int .i64 0, .int .i64 0, .ro 7 (rs.map encR) rs.length])]) ?_ ?_
  · refine Run.drawnN C_ok (aopC_sound C_ok) [0, 1] (.pre [0, 1, 2, 3, 4, 5, 6, 7, 8, 9] (.two 10 (.ofL [11, 12, 13, 14, 15, 16]) 14 (.ofL [10, 11, 12, 13, 15, 16]))) (by kernel_rfl) ?_
    repeat (first | refine OpsA.cons ?_ | refine OpsA.nil ?_ | refine OrdA.cons rfl ?_ | refine OrdA.nil ?_ | refine OrdW.cons rfl ?_ | refine OrdW.nil ?_ | refine OrdK.cons rfl ?_ | refine OrdK.nil ?_ | refine OrdN.one rfl ?_ | refine OrdN.nil ?_ | refine Run.textA C_ok (aopC_sound C_ok) ?_ | refine And.intro rfl ?_ | refine And.intro (Nat.le_of_ble_eq_true rfl) ?_ | refine And.intro (Int.natCast_nonneg _) ?_ | refine fun (_ : Nat) => ?_ | refine Ord.go ?_ | refine Run.go rfl ?_ | refine Cont.go rfl ?_ | refine OrdP.go ?_)
    refine ⟨show (n : Int) ≤ ((x.ops.map encO).length : Int) by rw [List.length_map]; omega, ?_⟩
    repeat (first | refine OpsA.cons ?_ | refine OpsA.nil ?_ | refine OrdA.cons rfl ?_ | refine OrdA.nil ?_ | refine OrdW.cons rfl ?_ | refine OrdW.nil ?_ | refine OrdK.cons rfl ?_ | refine OrdK.nil ?_ | refine OrdN.one rfl ?_ | refine OrdN.nil ?_ | refine Run.textA C_ok (aopC_sound C_ok) ?_ | refine And.intro rfl ?_ | refine And.intro (Nat.le_of_ble_eq_true rfl) ?_ | refine And.intro (Int.natCast_nonneg _) ?_ | refine fun (_ : Nat) => ?_ | refine Ord.go ?_ | refine Run.go rfl ?_ | refine Cont.go rfl ?_ | refine OrdP.go ?_)
    refine OrdN.two ?_ ?_
    · repeat (first | refine OpsA.cons ?_ | refine OpsA.nil ?_ | refine OrdA.cons rfl ?_ | refine OrdA.nil ?_ | refine OrdW.cons rfl ?_ | refine OrdW.nil ?_ | refine OrdK.cons rfl ?_ | refine OrdK.nil ?_ | refine OrdN.one rfl ?_ | refine OrdN.nil ?_ | refine Run.textA C_ok (aopC_sound C_ok) ?_ | refine And.intro rfl ?_ | refine And.intro (Nat.le_of_ble_eq_true rfl) ?_ | refine And.intro (Int.natCast_nonneg _) ?_ | refine fun (_ : Nat) => ?_ | refine Ord.go ?_ | refine Run.go rfl ?_ | refine Cont.go rfl ?_ | refine OrdP.go ?_)
      refine ACallT.ok (ACall.sel [2, 3] (by decide) [.ptr 0 gt 0, .int .i64 x.s, .int .i64 x.st, .ro 5 (x.ops.map encO) n] _ ⟨Sub.ptr _ _ _ _, Sub.refl _, Sub.refl _, Sub.refl _, trivial⟩ (play_spec gt gm hT hI x.s x.st x.ops n (by omega)) ?_)
      intro r L' hq
      obtain ⟨gm2, es2, cl2, hT2, rfl, rfl⟩ := hq
      rw [erep]
      refine ⟨.tuple [encP ⟨x.st, 0, 0, rs⟩, encCs (playR l x.s x.st (x.ops.take n)).2.2], Sub.refl _, ?_⟩
      repeat (first | refine OpsA.cons ?_ | refine OpsA.nil ?_ | refine OrdA.cons rfl ?_ | refine OrdA.nil ?_ | refine OrdW.cons rfl ?_ | refine OrdW.nil ?_ | refine OrdK.cons rfl ?_ | refine OrdK.nil ?_ | refine OrdN.one rfl ?_ | refine OrdN.nil ?_ | refine Run.textA C_ok (aopC_sound C_ok) ?_ | refine And.intro rfl ?_ | refine And.intro (Nat.le_of_ble_eq_true rfl) ?_ | refine And.intro (Int.natCast_nonneg _) ?_ | refine fun (_ : Nat) => ?_ | refine Ord.go ?_ | refine Run.go rfl ?_ | refine Cont.go rfl ?_ | refine OrdP.go ?_)
      rename_i gr
      refine ⟨_, _, Weak.sel ?_ [1, 4] (by decide) ?_, gr, rfl, rfl⟩
      · repeat (first | exact trivial | refine And.intro (Sub.junk _) ?_ | refine And.intro (Sub.refl _) ?_ | refine And.intro (Sub.sl _ _ _ _ _) ?_ | refine And.intro (Sub.ptr _ _ _ _) ?_)
      · repeat (first | exact trivial | refine And.intro rfl ?_ | refine And.intro (SubO.refl _) ?_ | refine And.intro trivial ?_ | refine And.intro (SubO.cells (by repeat (first | exact trivial | refine And.intro (Sub.refl _) ?_ | refine And.intro (Sub.sl _ _ _ _ _) ?_ | refine And.intro (Sub.ptr _ _ _ _) ?_))) ?_)
    · repeat (first | refine OpsA.cons ?_ | refine OpsA.nil ?_ | refine OrdA.cons rfl ?_ | refine OrdA.nil ?_ | refine OrdW.cons rfl ?_ | refine OrdW.nil ?_ | refine OrdK.cons rfl ?_ | refine OrdK.nil ?_ | refine OrdN.one rfl ?_ | refine OrdN.nil ?_ | refine Run.textA C_ok (aopC_sound C_ok) ?_ | refine And.intro rfl ?_ | refine And.intro (Nat.le_of_ble_eq_true rfl) ?_ | refine And.intro (Int.natCast_nonneg _) ?_ | refine fun (_ : Nat) => ?_ | refine Ord.go ?_ | refine Run.go rfl ?_ | refine Cont.go rfl ?_ | refine OrdP.go ?_)
      rename_i gr
      refine ACallT.ok (ACall.sel [2, 3] (by decide) [.ptr 0 gt 0, .int .i64 x.s, .int .i64 x.st, .ro 5 (x.ops.map encO) n] _ ⟨Sub.ptr _ _ _ _, Sub.refl _, Sub.refl _, Sub.refl _, trivial⟩ (play_spec gt gm hT hI x.s x.st x.ops n (by omega)) ?_)
      intro r L' hq
      obtain ⟨gm2, es2, cl2, hT2, rfl, rfl⟩ := hq
      rw [erep]
      refine ⟨.tuple [encP ⟨x.st, 0, 0, rs⟩, encCs (playR l x.s x.st (x.ops.take n)).2.2], Sub.refl _, ?_⟩
      repeat (first | refine OpsA.cons ?_ | refine OpsA.nil ?_ | refine OrdA.cons rfl ?_ | refine OrdA.nil ?_ | refine OrdW.cons rfl ?_ | refine OrdW.nil ?_ | refine OrdK.cons rfl ?_ | refine OrdK.nil ?_ | refine OrdN.one rfl ?_ | refine OrdN.nil ?_ | refine Run.textA C_ok (aopC_sound C_ok) ?_ | refine And.intro rfl ?_ | refine And.intro (Nat.le_of_ble_eq_true rfl) ?_ | refine And.intro (Int.natCast_nonneg _) ?_ | refine fun (_ : Nat) => ?_ | refine Ord.go ?_ | refine Run.go rfl ?_ | refine Cont.go rfl ?_ | refine OrdP.go ?_)
      refine ⟨_, _, Weak.sel ?_ [1, 4] (by decide) ?_, gr, rfl, rfl⟩
      · repeat (first | exact trivial | refine And.intro (Sub.junk _) ?_ | refine And.intro (Sub.refl _) ?_ | refine And.intro (Sub.sl _ _ _ _ _) ?_ | refine And.intro (Sub.ptr _ _ _ _) ?_)
      · repeat (first | exact trivial | refine And.intro rfl ?_ | refine And.intro (SubO.refl _) ?_ | refine And.intro trivial ?_ | refine And.intro (SubO.cells (by repeat (first | exact trivial | refine And.intro (Sub.refl _) ?_ | refine And.intro (Sub.sl _ _ _ _ _) ?_ | refine And.intro (Sub.ptr _ _ _ _) ?_))) ?_)
  rintro env L ⟨gr, rfl, rfl⟩
  repeat (first | refine OpsA.cons ?_ | refine OpsA.nil ?_ | refine OrdA.cons rfl ?_ | refine OrdA.nil ?_ | refine OrdW.cons rfl ?_ | refine OrdW.nil ?_ | refine OrdK.cons rfl ?_ | refine OrdK.nil ?_ | refine OrdN.one rfl ?_ | refine OrdN.nil ?_ | refine Run.textA C_ok (aopC_sound C_ok) ?_ | refine And.intro rfl ?_ | refine And.intro (Nat.le_of_ble_eq_true rfl) ?_ | refine And.intro (Int.natCast_nonneg _) ?_ | refine fun (_ : Nat) => ?_ | refine Ord.go ?_ | refine Run.go rfl ?_ | refine Cont.go rfl ?_ | refine OrdP.go ?_)
  refine ACallT.ok (ACall.ret (num_spec 0) ?_)
  repeat (first | refine OpsA.cons ?_ | refine OpsA.nil ?_ | refine OrdA.cons rfl ?_ | refine OrdA.nil ?_ | refine OrdW.cons rfl ?_ | refine OrdW.nil ?_ | refine OrdK.cons rfl ?_ | refine OrdK.nil ?_ | refine OrdN.one rfl ?_ | refine OrdN.nil ?_ | refine Run.textA C_ok (aopC_sound C_ok) ?_ | refine And.intro rfl ?_ | refine And.intro (Nat.le_of_ble_eq_true rfl) ?_ | refine And.intro (Int.natCast_nonneg _) ?_ | refine fun (_ : Nat) => ?_ | refine Ord.go ?_ | refine Run.go rfl ?_ | refine Cont.go rfl ?_ | refine OrdP.go ?_)
  refine ⟨fun _ => ?_, fun h => absurd rfl h⟩
  repeat (first | refine OpsA.cons ?_ | refine OpsA.nil ?_ | refine OrdA.cons rfl ?_ | refine OrdA.nil ?_ | refine OrdW.cons rfl ?_ | refine OrdW.nil ?_ | refine OrdK.cons rfl ?_ | refine OrdK.nil ?_ | refine OrdN.one rfl ?_ | refine OrdN.nil ?_ | refine Run.textA C_ok (aopC_sound C_ok) ?_ | refine And.intro rfl ?_ | refine And.intro (Nat.le_of_ble_eq_true rfl) ?_ | refine And.intro (Int.natCast_nonneg _) ?_ | refine fun (_ : Nat) => ?_ | refine Ord.go ?_ | refine Run.go rfl ?_ | refine Cont.go rfl ?_ | refine OrdP.go ?_)
  refine ⟨fun _ => ?_, fun h => absurd (show (rs.length : Int) = (n : Int) by omega) h⟩
  repeat (first | refine OpsA.cons ?_ | refine OpsA.nil ?_ | refine OrdA.cons rfl ?_ | refine OrdA.nil ?_ | refine OrdW.cons rfl ?_ | refine OrdW.nil ?_ | refine OrdK.cons rfl ?_ | refine OrdK.nil ?_ | refine OrdN.one rfl ?_ | refine OrdN.nil ?_ | refine Run.textA C_ok (aopC_sound C_ok) ?_ | refine And.intro rfl ?_ | refine And.intro (Nat.le_of_ble_eq_true rfl) ?_ | refine And.intro (Int.natCast_nonneg _) ?_ | refine fun (_ : Nat) => ?_ | refine Ord.go ?_ | refine Run.go rfl ?_ | refine Cont.go rfl ?_ | refine OrdP.go ?_)
  exact ⟨_, [], FinOk.drop _ _, rfl, rfl⟩
end Go.Proofs.YtiikjcdjgmlcgaaDoor.HBT
