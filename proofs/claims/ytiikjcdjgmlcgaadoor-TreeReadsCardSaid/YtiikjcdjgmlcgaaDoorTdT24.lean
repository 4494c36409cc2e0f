/- The laws' helpers: same, find. -/
import Derived.Test.YtiikjcdjgmlcgaaDoorTdT9
namespace Go.Proofs.YtiikjcdjgmlcgaaDoor.HBT
open Go Go.Proofs.YtiikjcdjgmlcgaaDoor.HB Go.RowKit
set_option maxRecDepth 8000

abbrev rdX (l : List Fu) : AV := .ro 7 (l.map encX) l.length
theorem fx_eq (x y : Fu) : allEq [.str x.p, .str x.d, .int .i64 x.v, .int .i64 x.m, .int .i64 x.c, .int .i64 x.o, .int .i64 x.k] [.str y.p, .str y.d, .int .i64 y.v, .int .i64 y.m, .int .i64 y.c, .int .i64 y.o, .int .i64 y.k] ↔ x = y := by
  cases x; cases y; simp [allEq, eq1]
theorem chg_eq (x y : Chg) : allEq [.int .i64 x.k, .str x.p, .str x.d, .int .i64 x.v] [.int .i64 y.k, .str y.p, .str y.d, .int .i64 y.v] ↔ x = y := by
  cases x; cases y; simp [allEq, eq1]
theorem eq_of_upto {α : Type} {a b : List α} (hl : a.length = b.length) (h : ∀ j < a.length, a[j]? = b[j]?) : a = b := by
  apply List.ext_getElem?
  intro j
  by_cases hj : j < a.length
  · exact h j hj
  · rw [List.getElem?_eq_none (by omega), List.getElem?_eq_none (by omega)]
set_option maxHeartbeats 4000000 in
theorem same_spec (a b : List Fu) (ha : a.length ≤ 1000) : FnSpec C 19 [rdX a, rdX b] [] (fun r L' => r = .bool (decide (a = b)) ∧ L' = []) := by
  refine FnSpec.start C_ok Tryd.func19 rfl rfl Tryd.ntmps19 ?_
  repeat (first | refine OpsA.cons ?_ | refine OpsA.nil ?_ | refine OrdA.cons rfl ?_ | refine OrdA.nil ?_ | refine OrdW.cons rfl ?_ | refine OrdW.nil ?_ | refine OrdK.cons rfl ?_ | refine OrdK.nil ?_ | refine OrdN.one rfl ?_ | refine OrdN.nil ?_ | refine Run.textA C_ok (aopC_sound C_ok) ?_ | refine And.intro rfl ?_ | refine And.intro (Nat.le_of_ble_eq_true rfl) ?_ | refine And.intro (Int.natCast_nonneg _) ?_ | refine fun (_ : Nat) => ?_ | refine Ord.go ?_ | refine Run.go rfl ?_ | refine Cont.go rfl ?_ | refine OrdP.go ?_)
  refine ⟨fun h => ?_, fun h => ?_⟩
  · have h : ¬ (a.length : Int) = b.length := h
    repeat (first | refine OpsA.cons ?_ | refine OpsA.nil ?_ | refine OrdA.cons rfl ?_ | refine OrdA.nil ?_ | refine OrdW.cons rfl ?_ | refine OrdW.nil ?_ | refine OrdK.cons rfl ?_ | refine OrdK.nil ?_ | refine OrdN.one rfl ?_ | refine OrdN.nil ?_ | refine Run.textA C_ok (aopC_sound C_ok) ?_ | refine And.intro rfl ?_ | refine And.intro (Nat.le_of_ble_eq_true rfl) ?_ | refine And.intro (Int.natCast_nonneg _) ?_ | refine fun (_ : Nat) => ?_ | refine Ord.go ?_ | refine Run.go rfl ?_ | refine Cont.go rfl ?_ | refine OrdP.go ?_)
    exact ⟨_, [], FinOk.drop _ _, congrArg AV.bool (decide_eq_false fun e => h (by rw [e])).symm, rfl⟩
  have hl : a.length = b.length := by have h : ¬ ¬ (a.length : Int) = b.length := h; omega
  repeat (first | refine OpsA.cons ?_ | refine OpsA.nil ?_ | refine OrdA.cons rfl ?_ | refine OrdA.nil ?_ | refine OrdW.cons rfl ?_ | refine OrdW.nil ?_ | refine OrdK.cons rfl ?_ | refine OrdK.nil ?_ | refine OrdN.one rfl ?_ | refine OrdN.nil ?_ | refine Run.textA C_ok (aopC_sound C_ok) ?_ | refine And.intro rfl ?_ | refine And.intro (Nat.le_of_ble_eq_true rfl) ?_ | refine And.intro (Int.natCast_nonneg _) ?_ | refine fun (_ : Nat) => ?_ | refine Ord.go ?_ | refine Run.go rfl ?_ | refine Cont.go rfl ?_ | refine OrdP.go ?_)
  refine Run.loop (fun k env L => ∃ i : Nat, k = a.length - i ∧ i ≤ a.length ∧ (∀ j < i, a[j]? = b[j]?) ∧ env = [rdX a, rdX b, .junk, .junk, .junk, .int .i64 i, .junk, .junk, .junk, .junk, .junk, .junk, .junk, .junk, .junk, .junk, .junk, .junk, .junk, .junk, .junk, .junk, .junk, .junk, .junk, .junk] ∧ L = []) a.length [rdX a, rdX b, .junk, .junk, .junk, .int .i64 (0 : Nat), .junk, .junk, .junk, .junk, .junk, .junk, .junk, .junk, .junk, .junk, .junk, .junk, .junk, .junk, .junk, .junk, .junk, .junk, .junk, .junk] ?_ ⟨0, by omega, by omega, fun j hj => absurd hj (Nat.not_lt_zero j), rfl, rfl⟩ ?_
  · repeat (first | exact trivial | refine ⟨.inl rfl, ?_⟩ | refine ⟨.inr rfl, ?_⟩)
  rintro k env L ⟨i, rfl, hi, hP, rfl, rfl⟩
  repeat (first | refine OpsA.cons ?_ | refine OpsA.nil ?_ | refine OrdA.cons rfl ?_ | refine OrdA.nil ?_ | refine OrdW.cons rfl ?_ | refine OrdW.nil ?_ | refine OrdK.cons rfl ?_ | refine OrdK.nil ?_ | refine OrdN.one rfl ?_ | refine OrdN.nil ?_ | refine Run.textA C_ok (aopC_sound C_ok) ?_ | refine And.intro rfl ?_ | refine And.intro (Nat.le_of_ble_eq_true rfl) ?_ | refine And.intro (Int.natCast_nonneg _) ?_ | refine fun (_ : Nat) => ?_ | refine Ord.go ?_ | refine Run.go rfl ?_ | refine Cont.go rfl ?_ | refine OrdP.go ?_)
  refine ⟨fun h => ?_, fun h => ?_⟩
  · have h : (i : Int) < (a.length : Int) := h
    have hia : i < a.length := by omega
    obtain ⟨x, ex⟩ : ∃ x, a[i]? = some x := ⟨_, List.getElem?_eq_getElem hia⟩
    obtain ⟨y, ey⟩ : ∃ y, b[i]? = some y := ⟨_, List.getElem?_eq_getElem (by omega)⟩
    repeat (first | refine OpsA.cons ?_ | refine OpsA.nil ?_ | refine OrdA.cons rfl ?_ | refine OrdA.nil ?_ | refine OrdW.cons rfl ?_ | refine OrdW.nil ?_ | refine OrdK.cons rfl ?_ | refine OrdK.nil ?_ | refine OrdN.one rfl ?_ | refine OrdN.nil ?_ | refine Run.textA C_ok (aopC_sound C_ok) ?_ | refine And.intro rfl ?_ | refine And.intro (Nat.le_of_ble_eq_true rfl) ?_ | refine And.intro (Int.natCast_nonneg _) ?_ | refine fun (_ : Nat) => ?_ | refine Ord.go ?_ | refine Run.go rfl ?_ | refine Cont.go rfl ?_ | refine OrdP.go ?_)
    refine Run.drawnK C_ok (aopC_sound C_ok) [] [0, 1, 2, 3, 4, 5, 6, 7, 8] (by kernel_rfl) ?_
    repeat (first | refine OpsA.cons ?_ | refine OpsA.nil ?_ | refine OrdA.cons rfl ?_ | refine OrdA.nil ?_ | refine OrdW.cons rfl ?_ | refine OrdW.nil ?_ | refine OrdK.cons rfl ?_ | refine OrdK.nil ?_ | refine OrdN.one rfl ?_ | refine OrdN.nil ?_ | refine Run.textA C_ok (aopC_sound C_ok) ?_ | refine And.intro rfl ?_ | refine And.intro (Nat.le_of_ble_eq_true rfl) ?_ | refine And.intro (Int.natCast_nonneg _) ?_ | refine fun (_ : Nat) => ?_ | refine Ord.go ?_ | refine Run.go rfl ?_ | refine Cont.go rfl ?_ | refine OrdP.go ?_)
    refine ⟨h, encX x, map_at encX ex, ?_⟩
    repeat (first | refine OpsA.cons ?_ | refine OpsA.nil ?_ | refine OrdA.cons rfl ?_ | refine OrdA.nil ?_ | refine OrdW.cons rfl ?_ | refine OrdW.nil ?_ | refine OrdK.cons rfl ?_ | refine OrdK.nil ?_ | refine OrdN.one rfl ?_ | refine OrdN.nil ?_ | refine Run.textA C_ok (aopC_sound C_ok) ?_ | refine And.intro rfl ?_ | refine And.intro (Nat.le_of_ble_eq_true rfl) ?_ | refine And.intro (Int.natCast_nonneg _) ?_ | refine fun (_ : Nat) => ?_ | refine Ord.go ?_ | refine Run.go rfl ?_ | refine Cont.go rfl ?_ | refine OrdP.go ?_)
    refine ⟨show (i : Int) < (b.length : Int) by omega, encX y, map_at encX ey, ?_⟩
    repeat (first | refine OpsA.cons ?_ | refine OpsA.nil ?_ | refine OrdA.cons rfl ?_ | refine OrdA.nil ?_ | refine OrdW.cons rfl ?_ | refine OrdW.nil ?_ | refine OrdK.cons rfl ?_ | refine OrdK.nil ?_ | refine OrdN.one rfl ?_ | refine OrdN.nil ?_ | refine Run.textA C_ok (aopC_sound C_ok) ?_ | refine And.intro rfl ?_ | refine And.intro (Nat.le_of_ble_eq_true rfl) ?_ | refine And.intro (Int.natCast_nonneg _) ?_ | refine fun (_ : Nat) => ?_ | refine Ord.go ?_ | refine Run.go rfl ?_ | refine Cont.go rfl ?_ | refine OrdP.go ?_)
    refine ⟨fun hne => ?_, fun heq => ?_⟩
    · have hne : x ≠ y := fun e => hne ((fx_eq x y).2 e)
      repeat (first | refine OpsA.cons ?_ | refine OpsA.nil ?_ | refine OrdA.cons rfl ?_ | refine OrdA.nil ?_ | refine OrdW.cons rfl ?_ | refine OrdW.nil ?_ | refine OrdK.cons rfl ?_ | refine OrdK.nil ?_ | refine OrdN.one rfl ?_ | refine OrdN.nil ?_ | refine Run.textA C_ok (aopC_sound C_ok) ?_ | refine And.intro rfl ?_ | refine And.intro (Nat.le_of_ble_eq_true rfl) ?_ | refine And.intro (Int.natCast_nonneg _) ?_ | refine fun (_ : Nat) => ?_ | refine Ord.go ?_ | refine Run.go rfl ?_ | refine Cont.go rfl ?_ | refine OrdP.go ?_)
      exact ⟨_, [], FinOk.drop _ _, congrArg AV.bool (decide_eq_false fun e => hne (by rw [e] at ex; exact Option.some.inj (ex.symm.trans ey))).symm, rfl⟩
    · have heq : x = y := (fx_eq x y).1 (Classical.not_not.1 heq)
      subst heq
      repeat (first | refine OpsA.cons ?_ | refine OpsA.nil ?_ | refine OrdA.cons rfl ?_ | refine OrdA.nil ?_ | refine OrdW.cons rfl ?_ | refine OrdW.nil ?_ | refine OrdK.cons rfl ?_ | refine OrdK.nil ?_ | refine OrdN.one rfl ?_ | refine OrdN.nil ?_ | refine Run.textA C_ok (aopC_sound C_ok) ?_ | refine And.intro rfl ?_ | refine And.intro (Nat.le_of_ble_eq_true rfl) ?_ | refine And.intro (Int.natCast_nonneg _) ?_ | refine fun (_ : Nat) => ?_ | refine Ord.go ?_ | refine Run.go rfl ?_ | refine Cont.go rfl ?_ | refine OrdP.go ?_)
      refine fun r hr => ?_
      obtain rfl := add1 hr (by omega)
      repeat (first | refine OpsA.cons ?_ | refine OpsA.nil ?_ | refine OrdA.cons rfl ?_ | refine OrdA.nil ?_ | refine OrdW.cons rfl ?_ | refine OrdW.nil ?_ | refine OrdK.cons rfl ?_ | refine OrdK.nil ?_ | refine OrdN.one rfl ?_ | refine OrdN.nil ?_ | refine Run.textA C_ok (aopC_sound C_ok) ?_ | refine And.intro rfl ?_ | refine And.intro (Nat.le_of_ble_eq_true rfl) ?_ | refine And.intro (Int.natCast_nonneg _) ?_ | refine fun (_ : Nat) => ?_ | refine Ord.go ?_ | refine Run.go rfl ?_ | refine Cont.go rfl ?_ | refine OrdP.go ?_)
      refine Cont.lp ?_
      refine ⟨a.length - (i + 1), _, 99, by omega, ?_, ⟨i + 1, rfl, by omega, fun j hj => ?_, rfl, rfl⟩⟩
      · repeat (first | exact trivial | refine ⟨.inl rfl, ?_⟩ | refine ⟨.inr rfl, ?_⟩)
      · by_cases e : j = i
        · subst e; rw [ex, ey]
        · exact hP j (by omega)
  · have h : ¬ (i : Int) < (a.length : Int) := h
    repeat (first | refine OpsA.cons ?_ | refine OpsA.nil ?_ | refine OrdA.cons rfl ?_ | refine OrdA.nil ?_ | refine OrdW.cons rfl ?_ | refine OrdW.nil ?_ | refine OrdK.cons rfl ?_ | refine OrdK.nil ?_ | refine OrdN.one rfl ?_ | refine OrdN.nil ?_ | refine Run.textA C_ok (aopC_sound C_ok) ?_ | refine And.intro rfl ?_ | refine And.intro (Nat.le_of_ble_eq_true rfl) ?_ | refine And.intro (Int.natCast_nonneg _) ?_ | refine fun (_ : Nat) => ?_ | refine Ord.go ?_ | refine Run.go rfl ?_ | refine Cont.go rfl ?_ | refine OrdP.go ?_)
    exact ⟨_, [], FinOk.drop _ _, congrArg AV.bool (decide_eq_true (eq_of_upto hl fun j hj => hP j (by omega))).symm, rfl⟩
abbrev zeroX : Fu := ⟨eS, eS, 0, 0, 0, 0, 0⟩
set_option maxHeartbeats 4000000 in
theorem find_spec (l : List Fu) (p : ByteArray) (hl : l.length ≤ 1000) : FnSpec C 15 [rdX l, .str p] [] (fun r L' => r = .tuple [encX ((findF l p).getD zeroX), .bool (findF l p).isSome] ∧ L' = []) := by
  refine FnSpec.start C_ok Tryd.func15 rfl rfl Tryd.ntmps15 ?_
  repeat (first | refine OpsA.cons ?_ | refine OpsA.nil ?_ | refine OrdA.cons rfl ?_ | refine OrdA.nil ?_ | refine OrdW.cons rfl ?_ | refine OrdW.nil ?_ | refine OrdK.cons rfl ?_ | refine OrdK.nil ?_ | refine OrdN.one rfl ?_ | refine OrdN.nil ?_ | refine Run.textA C_ok (aopC_sound C_ok) ?_ | refine And.intro rfl ?_ | refine And.intro (Nat.le_of_ble_eq_true rfl) ?_ | refine And.intro (Int.natCast_nonneg _) ?_ | refine fun (_ : Nat) => ?_ | refine Ord.go ?_ | refine Run.go rfl ?_ | refine Cont.go rfl ?_ | refine OrdP.go ?_)
  rename_i gr
  refine Run.loop (fun k env L => ∃ i : Nat, k = l.length - i ∧ i ≤ l.length ∧ findF l p = findF (l.drop i) p ∧ env = [rdX l, .str p, .junk, .junk, .ptr 0 gr 0, .junk, .int .i64 i, .junk, .junk, .junk, .junk, .junk, .junk, .junk, .junk, .junk, .junk, .junk, .junk, .junk, .junk, .junk, .junk, .junk, .junk] ∧ L = [(gr, .cells tX [.str eS, .str eS, .int .i64 0, .int .i64 0, .int .i64 0, .int .i64 0, .int .i64 0])]) l.length [rdX l, .str p, .junk, .junk, .ptr 0 gr 0, .junk, .int .i64 (0 : Nat), .junk, .junk, .junk, .junk, .junk, .junk, .junk, .junk, .junk, .junk, .junk, .junk, .junk, .junk, .junk, .junk, .junk, .junk] ?_ ⟨0, by omega, by omega, by rw [List.drop_zero], rfl, rfl⟩ ?_
  · repeat (first | exact trivial | refine ⟨.inl rfl, ?_⟩ | refine ⟨.inr rfl, ?_⟩)
  rintro k env L ⟨i, rfl, hi, hP, rfl, rfl⟩
  repeat (first | refine OpsA.cons ?_ | refine OpsA.nil ?_ | refine OrdA.cons rfl ?_ | refine OrdA.nil ?_ | refine OrdW.cons rfl ?_ | refine OrdW.nil ?_ | refine OrdK.cons rfl ?_ | refine OrdK.nil ?_ | refine OrdN.one rfl ?_ | refine OrdN.nil ?_ | refine Run.textA C_ok (aopC_sound C_ok) ?_ | refine And.intro rfl ?_ | refine And.intro (Nat.le_of_ble_eq_true rfl) ?_ | refine And.intro (Int.natCast_nonneg _) ?_ | refine fun (_ : Nat) => ?_ | refine Ord.go ?_ | refine Run.go rfl ?_ | refine Cont.go rfl ?_ | refine OrdP.go ?_)
  refine ⟨fun h => ?_, fun h => ?_⟩
  · have h : (i : Int) < (l.length : Int) := h
    have hil : i < l.length := by omega
    obtain ⟨x, ex⟩ : ∃ x, l[i]? = some x := ⟨_, List.getElem?_eq_getElem hil⟩
    have ed : l.drop i = x :: l.drop (i + 1) := drop_at ex
    repeat (first | refine OpsA.cons ?_ | refine OpsA.nil ?_ | refine OrdA.cons rfl ?_ | refine OrdA.nil ?_ | refine OrdW.cons rfl ?_ | refine OrdW.nil ?_ | refine OrdK.cons rfl ?_ | refine OrdK.nil ?_ | refine OrdN.one rfl ?_ | refine OrdN.nil ?_ | refine Run.textA C_ok (aopC_sound C_ok) ?_ | refine And.intro rfl ?_ | refine And.intro (Nat.le_of_ble_eq_true rfl) ?_ | refine And.intro (Int.natCast_nonneg _) ?_ | refine fun (_ : Nat) => ?_ | refine Ord.go ?_ | refine Run.go rfl ?_ | refine Cont.go rfl ?_ | refine OrdP.go ?_)
    refine ⟨h, encX x, map_at encX ex, ?_⟩
    repeat (first | refine OpsA.cons ?_ | refine OpsA.nil ?_ | refine OrdA.cons rfl ?_ | refine OrdA.nil ?_ | refine OrdW.cons rfl ?_ | refine OrdW.nil ?_ | refine OrdK.cons rfl ?_ | refine OrdK.nil ?_ | refine OrdN.one rfl ?_ | refine OrdN.nil ?_ | refine Run.textA C_ok (aopC_sound C_ok) ?_ | refine And.intro rfl ?_ | refine And.intro (Nat.le_of_ble_eq_true rfl) ?_ | refine And.intro (Int.natCast_nonneg _) ?_ | refine fun (_ : Nat) => ?_ | refine Ord.go ?_ | refine Run.go rfl ?_ | refine Cont.go rfl ?_ | refine OrdP.go ?_)
    refine ⟨fun hp => ?_, fun hp => ?_⟩
    · have hp : x.p = p := hp
      have hf : findF l p = some x := by rw [hP, ed]; unfold findF; rw [List.find?_cons_of_pos]; simpa using hp
      repeat (first | refine OpsA.cons ?_ | refine OpsA.nil ?_ | refine OrdA.cons rfl ?_ | refine OrdA.nil ?_ | refine OrdW.cons rfl ?_ | refine OrdW.nil ?_ | refine OrdK.cons rfl ?_ | refine OrdK.nil ?_ | refine OrdN.one rfl ?_ | refine OrdN.nil ?_ | refine Run.textA C_ok (aopC_sound C_ok) ?_ | refine And.intro rfl ?_ | refine And.intro (Nat.le_of_ble_eq_true rfl) ?_ | refine And.intro (Int.natCast_nonneg _) ?_ | refine fun (_ : Nat) => ?_ | refine Ord.go ?_ | refine Run.go rfl ?_ | refine Cont.go rfl ?_ | refine OrdP.go ?_)
      refine ⟨h, encX x, map_at encX ex, ?_⟩
      repeat (first | refine OpsA.cons ?_ | refine OpsA.nil ?_ | refine OrdA.cons rfl ?_ | refine OrdA.nil ?_ | refine OrdW.cons rfl ?_ | refine OrdW.nil ?_ | refine OrdK.cons rfl ?_ | refine OrdK.nil ?_ | refine OrdN.one rfl ?_ | refine OrdN.nil ?_ | refine Run.textA C_ok (aopC_sound C_ok) ?_ | refine And.intro rfl ?_ | refine And.intro (Nat.le_of_ble_eq_true rfl) ?_ | refine And.intro (Int.natCast_nonneg _) ?_ | refine fun (_ : Nat) => ?_ | refine Ord.go ?_ | refine Run.go rfl ?_ | refine Cont.go rfl ?_ | refine OrdP.go ?_)
      exact ⟨_, [], FinOk.drop _ _, by rw [hf]; rfl, rfl⟩
    · have hp : ¬ x.p = p := hp
      have hf : findF l p = findF (l.drop (i + 1)) p := by rw [hP, ed]; unfold findF; rw [List.find?_cons_of_neg]; simpa using hp
      repeat (first | refine OpsA.cons ?_ | refine OpsA.nil ?_ | refine OrdA.cons rfl ?_ | refine OrdA.nil ?_ | refine OrdW.cons rfl ?_ | refine OrdW.nil ?_ | refine OrdK.cons rfl ?_ | refine OrdK.nil ?_ | refine OrdN.one rfl ?_ | refine OrdN.nil ?_ | refine Run.textA C_ok (aopC_sound C_ok) ?_ | refine And.intro rfl ?_ | refine And.intro (Nat.le_of_ble_eq_true rfl) ?_ | refine And.intro (Int.natCast_nonneg _) ?_ | refine fun (_ : Nat) => ?_ | refine Ord.go ?_ | refine Run.go rfl ?_ | refine Cont.go rfl ?_ | refine OrdP.go ?_)
      refine fun r hr => ?_
      obtain rfl := add1 hr (by omega)
      repeat (first | refine OpsA.cons ?_ | refine OpsA.nil ?_ | refine OrdA.cons rfl ?_ | refine OrdA.nil ?_ | refine OrdW.cons rfl ?_ | refine OrdW.nil ?_ | refine OrdK.cons rfl ?_ | refine OrdK.nil ?_ | refine OrdN.one rfl ?_ | refine OrdN.nil ?_ | refine Run.textA C_ok (aopC_sound C_ok) ?_ | refine And.intro rfl ?_ | refine And.intro (Nat.le_of_ble_eq_true rfl) ?_ | refine And.intro (Int.natCast_nonneg _) ?_ | refine fun (_ : Nat) => ?_ | refine Ord.go ?_ | refine Run.go rfl ?_ | refine Cont.go rfl ?_ | refine OrdP.go ?_)
      refine Cont.lp ?_
      refine ⟨l.length - (i + 1), _, 99, by omega, ?_, ⟨i + 1, rfl, by omega, hf, rfl, rfl⟩⟩
      · repeat (first | exact trivial | refine ⟨.inl rfl, ?_⟩ | refine ⟨.inr rfl, ?_⟩)
  · have h : ¬ (i : Int) < (l.length : Int) := h
    have hf : findF l p = none := by rw [hP, List.drop_of_length_le (by omega)]; rfl
    repeat (first | refine OpsA.cons ?_ | refine OpsA.nil ?_ | refine OrdA.cons rfl ?_ | refine OrdA.nil ?_ | refine OrdW.cons rfl ?_ | refine OrdW.nil ?_ | refine OrdK.cons rfl ?_ | refine OrdK.nil ?_ | refine OrdN.one rfl ?_ | refine OrdN.nil ?_ | refine Run.textA C_ok (aopC_sound C_ok) ?_ | refine And.intro rfl ?_ | refine And.intro (Nat.le_of_ble_eq_true rfl) ?_ | refine And.intro (Int.natCast_nonneg _) ?_ | refine fun (_ : Nat) => ?_ | refine Ord.go ?_ | refine Run.go rfl ?_ | refine Cont.go rfl ?_ | refine OrdP.go ?_)
    exact ⟨_, [], FinOk.drop _ _, by rw [hf]; rfl, rfl⟩
end Go.Proofs.YtiikjcdjgmlcgaaDoor.HBT
/- What one reading op answers, plainly. -/
namespace Go.Proofs.YtiikjcdjgmlcgaaDoor.HBT
open Go Go.Proofs.YtiikjcdjgmlcgaaDoor.HB Go.RowKit
set_option maxRecDepth 8000

/-- What a reading op is refused with. -/
def wantF (l : List Fu) (p : ByteArray) (v k : Int) : Int :=
  if parseE p ≠ 0 then 10 else if (findF l p).isSome = false then 40 else if k = 4 ∧ v ≠ -1 ∧ v ≠ ((findF l p).getD zeroX).v then 42 else 0
/-- What a reading op answers of a node. -/
def resF (l : List Fu) (x : Fu) (k : Int) : Res :=
  ⟨x.p, if k = 5 then x.d else eS, x.v, x.m, x.c, x.o, if k = 7 then (kidsF l x.p).map fun y => nameB y.p else []⟩
theorem reads_one (l : List Fu) (s st : Int) (p : ByteArray) (v k : Int) (h4 : 4 ≤ k) (h7 : k ≤ 7) :
    playF l s st ⟨k, p, eS, v, 0⟩ = if wantF l p v k = 0 then .ok (l, resF l ((findF l p).getD zeroX) k, []) else .error (wantF l p v k) := by
  unfold playF wantF
  rw [if_neg (show ¬ (k < 1 ∨ 7 < k) by omega), if_neg (show ¬ k = 1 by omega)]
  by_cases h0 : parseE p ≠ 0
  · rw [if_pos h0, if_pos h0, if_neg (by decide)]
  rw [if_neg h0, if_neg h0, if_neg (show ¬ (k = 3 ∧ p = slash) by omega), if_neg (show ¬ (k = 2 ∧ 64 < eS.size) by omega)]
  cases hf : findF l p with
  | none => rfl
  | some x =>
    simp only [Option.isSome_some, Option.getD_some]
    rw [if_neg (show ¬ (true = false) by decide)]
    by_cases hv : k = 4 ∧ v ≠ -1 ∧ v ≠ x.v
    · rw [if_pos hv, if_pos ⟨by omega, hv.2⟩, if_neg (by decide)]
    · rw [if_neg hv, if_pos rfl, if_neg (show ¬ (k ≤ 4 ∧ v ≠ -1 ∧ v ≠ x.v) from fun e => hv ⟨by omega, e.2⟩), if_neg (show ¬ k = 2 by omega), if_neg (show ¬ k = 3 by omega)]
      by_cases h5 : k = 5
      · rw [if_pos h5]
        unfold resF
        rw [if_pos h5, if_neg (show ¬ k = 7 by omega)]
        rfl
      rw [if_neg h5]
      by_cases h7 : k = 7
      · rw [if_pos h7]
        unfold resF
        rw [if_neg h5, if_pos h7]
        rfl
      · rw [if_neg h7]
        unfold resF
        rw [if_neg h5, if_neg h7]
        rfl
theorem reads_play (l : List Fu) (p : ByteArray) (v k : Int) (h4 : 4 ≤ k) (h7 : k ≤ 7) :
    playR l 1 1 [⟨k, p, eS, v, 0⟩] = (l, ⟨1, wantF l p v k, 0, if wantF l p v k = 0 then [resF l ((findF l p).getD zeroX) k] else []⟩, []) := by
  unfold playR
  rw [if_neg (by simp), if_neg (by decide), if_neg (List.cons_ne_nil _ _)]
  unfold goF
  rw [reads_one l 1 1 p v k h4 h7]
  by_cases h : wantF l p v k = 0
  · rw [if_pos h, if_pos h, h]
    rfl
  · rw [if_neg h, if_neg h]
    rfl
end Go.Proofs.YtiikjcdjgmlcgaaDoor.HBT
/- The law TreeReads: its helpers. -/
namespace Go.Proofs.YtiikjcdjgmlcgaaDoor.HBT
open Go Go.Proofs.YtiikjcdjgmlcgaaDoor.HB Go.RowKit
set_option maxRecDepth 8000

set_option maxHeartbeats 4000000 in
theorem texts_spec (a b : List ByteArray) (ha : a.length ≤ 1000) : FnSpec C 35 [kidsA a, kidsA b] [] (fun r L' => r = .bool (decide (a = b)) ∧ L' = []) := by
  refine FnSpec.start C_ok Tryd.func35 rfl rfl Tryd.ntmps35 ?_
  repeat (first | refine OpsA.cons ?_ | refine OpsA.nil ?_ | refine OrdA.cons rfl ?_ | refine OrdA.nil ?_ | refine OrdW.cons rfl ?_ | refine OrdW.nil ?_ | refine OrdK.cons rfl ?_ | refine OrdK.nil ?_ | refine OrdN.one rfl ?_ | refine OrdN.nil ?_ | refine Run.textA C_ok (aopC_sound C_ok) ?_ | refine And.intro rfl ?_ | refine And.intro (Nat.le_of_ble_eq_true rfl) ?_ | refine And.intro (Int.natCast_nonneg _) ?_ | refine fun (_ : Nat) => ?_ | refine Ord.go ?_ | refine Run.go rfl ?_ | refine Cont.go rfl ?_ | refine OrdP.go ?_)
  refine ⟨fun h => ?_, fun h => ?_⟩
  · have h : ¬ (a.length : Int) = b.length := h
    repeat (first | refine OpsA.cons ?_ | refine OpsA.nil ?_ | refine OrdA.cons rfl ?_ | refine OrdA.nil ?_ | refine OrdW.cons rfl ?_ | refine OrdW.nil ?_ | refine OrdK.cons rfl ?_ | refine OrdK.nil ?_ | refine OrdN.one rfl ?_ | refine OrdN.nil ?_ | refine Run.textA C_ok (aopC_sound C_ok) ?_ | refine And.intro rfl ?_ | refine And.intro (Nat.le_of_ble_eq_true rfl) ?_ | refine And.intro (Int.natCast_nonneg _) ?_ | refine fun (_ : Nat) => ?_ | refine Ord.go ?_ | refine Run.go rfl ?_ | refine Cont.go rfl ?_ | refine OrdP.go ?_)
    exact ⟨_, [], FinOk.drop _ _, congrArg AV.bool (decide_eq_false fun e => h (by rw [e])).symm, rfl⟩
  have hl : a.length = b.length := by have h : ¬ ¬ (a.length : Int) = b.length := h; omega
  repeat (first | refine OpsA.cons ?_ | refine OpsA.nil ?_ | refine OrdA.cons rfl ?_ | refine OrdA.nil ?_ | refine OrdW.cons rfl ?_ | refine OrdW.nil ?_ | refine OrdK.cons rfl ?_ | refine OrdK.nil ?_ | refine OrdN.one rfl ?_ | refine OrdN.nil ?_ | refine Run.textA C_ok (aopC_sound C_ok) ?_ | refine And.intro rfl ?_ | refine And.intro (Nat.le_of_ble_eq_true rfl) ?_ | refine And.intro (Int.natCast_nonneg _) ?_ | refine fun (_ : Nat) => ?_ | refine Ord.go ?_ | refine Run.go rfl ?_ | refine Cont.go rfl ?_ | refine OrdP.go ?_)
  refine Run.loop (fun k env L => ∃ i : Nat, k = a.length - i ∧ i ≤ a.length ∧ (∀ j < i, a[j]? = b[j]?) ∧ env = [kidsA a, kidsA b, .junk, .junk, .junk, .int .i64 i, .junk, .junk, .junk, .junk, .junk, .junk, .junk, .junk, .junk, .junk, .junk, .junk, .junk, .junk, .junk, .junk, .junk, .junk, .junk, .junk] ∧ L = []) a.length [kidsA a, kidsA b, .junk, .junk, .junk, .int .i64 (0 : Nat), .junk, .junk, .junk, .junk, .junk, .junk, .junk, .junk, .junk, .junk, .junk, .junk, .junk, .junk, .junk, .junk, .junk, .junk, .junk, .junk] ?_ ⟨0, by omega, by omega, fun j hj => absurd hj (Nat.not_lt_zero j), rfl, rfl⟩ ?_
  · repeat (first | exact trivial | refine ⟨.inl rfl, ?_⟩ | refine ⟨.inr rfl, ?_⟩)
  rintro k env L ⟨i, rfl, hi, hP, rfl, rfl⟩
  repeat (first | refine OpsA.cons ?_ | refine OpsA.nil ?_ | refine OrdA.cons rfl ?_ | refine OrdA.nil ?_ | refine OrdW.cons rfl ?_ | refine OrdW.nil ?_ | refine OrdK.cons rfl ?_ | refine OrdK.nil ?_ | refine OrdN.one rfl ?_ | refine OrdN.nil ?_ | refine Run.textA C_ok (aopC_sound C_ok) ?_ | refine And.intro rfl ?_ | refine And.intro (Nat.le_of_ble_eq_true rfl) ?_ | refine And.intro (Int.natCast_nonneg _) ?_ | refine fun (_ : Nat) => ?_ | refine Ord.go ?_ | refine Run.go rfl ?_ | refine Cont.go rfl ?_ | refine OrdP.go ?_)
  refine ⟨fun h => ?_, fun h => ?_⟩
  · have h : (i : Int) < (a.length : Int) := h
    have hia : i < a.length := by omega
    obtain ⟨x, ex⟩ : ∃ x, a[i]? = some x := ⟨_, List.getElem?_eq_getElem hia⟩
    obtain ⟨y, ey⟩ : ∃ y, b[i]? = some y := ⟨_, List.getElem?_eq_getElem (by omega)⟩
    repeat (first | refine OpsA.cons ?_ | refine OpsA.nil ?_ | refine OrdA.cons rfl ?_ | refine OrdA.nil ?_ | refine OrdW.cons rfl ?_ | refine OrdW.nil ?_ | refine OrdK.cons rfl ?_ | refine OrdK.nil ?_ | refine OrdN.one rfl ?_ | refine OrdN.nil ?_ | refine Run.textA C_ok (aopC_sound C_ok) ?_ | refine And.intro rfl ?_ | refine And.intro (Nat.le_of_ble_eq_true rfl) ?_ | refine And.intro (Int.natCast_nonneg _) ?_ | refine fun (_ : Nat) => ?_ | refine Ord.go ?_ | refine Run.go rfl ?_ | refine Cont.go rfl ?_ | refine OrdP.go ?_)
    refine Run.drawnK C_ok (aopC_sound C_ok) [] [0, 1, 2, 3, 4, 5, 6, 7, 8] (by kernel_rfl) ?_
    repeat (first | refine OpsA.cons ?_ | refine OpsA.nil ?_ | refine OrdA.cons rfl ?_ | refine OrdA.nil ?_ | refine OrdW.cons rfl ?_ | refine OrdW.nil ?_ | refine OrdK.cons rfl ?_ | refine OrdK.nil ?_ | refine OrdN.one rfl ?_ | refine OrdN.nil ?_ | refine Run.textA C_ok (aopC_sound C_ok) ?_ | refine And.intro rfl ?_ | refine And.intro (Nat.le_of_ble_eq_true rfl) ?_ | refine And.intro (Int.natCast_nonneg _) ?_ | refine fun (_ : Nat) => ?_ | refine Ord.go ?_ | refine Run.go rfl ?_ | refine Cont.go rfl ?_ | refine OrdP.go ?_)
    refine ⟨h, .str x, map_at AV.str ex, ?_⟩
    repeat (first | refine OpsA.cons ?_ | refine OpsA.nil ?_ | refine OrdA.cons rfl ?_ | refine OrdA.nil ?_ | refine OrdW.cons rfl ?_ | refine OrdW.nil ?_ | refine OrdK.cons rfl ?_ | refine OrdK.nil ?_ | refine OrdN.one rfl ?_ | refine OrdN.nil ?_ | refine Run.textA C_ok (aopC_sound C_ok) ?_ | refine And.intro rfl ?_ | refine And.intro (Nat.le_of_ble_eq_true rfl) ?_ | refine And.intro (Int.natCast_nonneg _) ?_ | refine fun (_ : Nat) => ?_ | refine Ord.go ?_ | refine Run.go rfl ?_ | refine Cont.go rfl ?_ | refine OrdP.go ?_)
    refine ⟨show (i : Int) < (b.length : Int) by omega, .str y, map_at AV.str ey, ?_⟩
    repeat (first | refine OpsA.cons ?_ | refine OpsA.nil ?_ | refine OrdA.cons rfl ?_ | refine OrdA.nil ?_ | refine OrdW.cons rfl ?_ | refine OrdW.nil ?_ | refine OrdK.cons rfl ?_ | refine OrdK.nil ?_ | refine OrdN.one rfl ?_ | refine OrdN.nil ?_ | refine Run.textA C_ok (aopC_sound C_ok) ?_ | refine And.intro rfl ?_ | refine And.intro (Nat.le_of_ble_eq_true rfl) ?_ | refine And.intro (Int.natCast_nonneg _) ?_ | refine fun (_ : Nat) => ?_ | refine Ord.go ?_ | refine Run.go rfl ?_ | refine Cont.go rfl ?_ | refine OrdP.go ?_)
    refine ⟨fun hne => ?_, fun heq => ?_⟩
    · have hne : ¬ x = y := hne
      repeat (first | refine OpsA.cons ?_ | refine OpsA.nil ?_ | refine OrdA.cons rfl ?_ | refine OrdA.nil ?_ | refine OrdW.cons rfl ?_ | refine OrdW.nil ?_ | refine OrdK.cons rfl ?_ | refine OrdK.nil ?_ | refine OrdN.one rfl ?_ | refine OrdN.nil ?_ | refine Run.textA C_ok (aopC_sound C_ok) ?_ | refine And.intro rfl ?_ | refine And.intro (Nat.le_of_ble_eq_true rfl) ?_ | refine And.intro (Int.natCast_nonneg _) ?_ | refine fun (_ : Nat) => ?_ | refine Ord.go ?_ | refine Run.go rfl ?_ | refine Cont.go rfl ?_ | refine OrdP.go ?_)
      exact ⟨_, [], FinOk.drop _ _, congrArg AV.bool (decide_eq_false fun e => hne (by rw [e] at ex; exact Option.some.inj (ex.symm.trans ey))).symm, rfl⟩
    · have heq : x = y := Classical.not_not.1 heq
      subst heq
      repeat (first | refine OpsA.cons ?_ | refine OpsA.nil ?_ | refine OrdA.cons rfl ?_ | refine OrdA.nil ?_ | refine OrdW.cons rfl ?_ | refine OrdW.nil ?_ | refine OrdK.cons rfl ?_ | refine OrdK.nil ?_ | refine OrdN.one rfl ?_ | refine OrdN.nil ?_ | refine Run.textA C_ok (aopC_sound C_ok) ?_ | refine And.intro rfl ?_ | refine And.intro (Nat.le_of_ble_eq_true rfl) ?_ | refine And.intro (Int.natCast_nonneg _) ?_ | refine fun (_ : Nat) => ?_ | refine Ord.go ?_ | refine Run.go rfl ?_ | refine Cont.go rfl ?_ | refine OrdP.go ?_)
      refine fun r hr => ?_
      obtain rfl := add1 hr (by omega)
      repeat (first | refine OpsA.cons ?_ | refine OpsA.nil ?_ | refine OrdA.cons rfl ?_ | refine OrdA.nil ?_ | refine OrdW.cons rfl ?_ | refine OrdW.nil ?_ | refine OrdK.cons rfl ?_ | refine OrdK.nil ?_ | refine OrdN.one rfl ?_ | refine OrdN.nil ?_ | refine Run.textA C_ok (aopC_sound C_ok) ?_ | refine And.intro rfl ?_ | refine And.intro (Nat.le_of_ble_eq_true rfl) ?_ | refine And.intro (Int.natCast_nonneg _) ?_ | refine fun (_ : Nat) => ?_ | refine Ord.go ?_ | refine Run.go rfl ?_ | refine Cont.go rfl ?_ | refine OrdP.go ?_)
      refine Cont.lp ?_
      refine ⟨a.length - (i + 1), _, 99, by omega, ?_, ⟨i + 1, rfl, by omega, fun j hj => ?_, rfl, rfl⟩⟩
      · repeat (first | exact trivial | refine ⟨.inl rfl, ?_⟩ | refine ⟨.inr rfl, ?_⟩)
      · by_cases e : j = i
        · subst e; rw [ex, ey]
        · exact hP j (by omega)
  · have h : ¬ (i : Int) < (a.length : Int) := h
    repeat (first | refine OpsA.cons ?_ | refine OpsA.nil ?_ | refine OrdA.cons rfl ?_ | refine OrdA.nil ?_ | refine OrdW.cons rfl ?_ | refine OrdW.nil ?_ | refine OrdK.cons rfl ?_ | refine OrdK.nil ?_ | refine OrdN.one rfl ?_ | refine OrdN.nil ?_ | refine Run.textA C_ok (aopC_sound C_ok) ?_ | refine And.intro rfl ?_ | refine And.intro (Nat.le_of_ble_eq_true rfl) ?_ | refine And.intro (Int.natCast_nonneg _) ?_ | refine fun (_ : Nat) => ?_ | refine Ord.go ?_ | refine Run.go rfl ?_ | refine Cont.go rfl ?_ | refine OrdP.go ?_)
    exact ⟨_, [], FinOk.drop _ _, congrArg AV.bool (decide_eq_true (eq_of_upto hl fun j hj => hP j (by omega))).symm, rfl⟩

theorem kids_more {l : List Fu} {i : Nat} {x : Fu} (ex : l[i]? = some x) (a : ByteArray) : kidsF (l.take (i + 1)) a = kidsF (l.take i) a ++ (if childB x.p a then [x] else []) := by
  obtain ⟨h1, e1⟩ := List.getElem?_eq_some_iff.1 ex
  unfold kidsF
  rw [List.take_succ_eq_append_getElem h1, e1, List.filter_append]
  congr 1
  by_cases h : childB x.p a
  · rw [if_pos h, List.filter_cons_of_pos (by simpa using h)]; rfl
  · rw [if_neg h, List.filter_cons_of_neg (by simpa using h)]; rfl
set_option maxHeartbeats 4000000 in
theorem read_spec (l : List Fu) (n : Fu) (k : Int) (hl : l.length ≤ 64) : FnSpec C 18 [encR (resF l n k), .int .i64 k, rdX l, encX n] [] (fun r L' => r = .bool true ∧ L' = []) := by
  refine FnSpec.start C_ok Tryd.func18 rfl rfl Tryd.ntmps18 ?_
  repeat (first | refine OpsA.cons ?_ | refine OpsA.nil ?_ | refine OrdA.cons rfl ?_ | refine OrdA.nil ?_ | refine OrdW.cons rfl ?_ | refine OrdW.nil ?_ | refine OrdK.cons rfl ?_ | refine OrdK.nil ?_ | refine OrdN.one rfl ?_ | refine OrdN.nil ?_ | refine Run.textA C_ok (aopC_sound C_ok) ?_ | refine And.intro rfl ?_ | refine And.intro (Nat.le_of_ble_eq_true rfl) ?_ | refine And.intro (Int.natCast_nonneg _) ?_ | refine fun (_ : Nat) => ?_ | refine Ord.go ?_ | refine Run.go rfl ?_ | refine Cont.go rfl ?_ | refine OrdP.go ?_)
  rename_i g4 g7
  refine Run.loopW (fun m env L => ∃ (i : Nat) (v : AV) (gk : Nat) (o : AObj), m = l.length - i ∧ i ≤ l.length ∧ (k ≠ 7 → i = 0) ∧ LN AV.str 9 1 2 ((kidsF (l.take i) n.p).map fun y => nameB y.p) v gk o ∧ env = [.junk, .int .i64 k, rdX l, .junk, .ptr 0 g4 0, .junk, .junk, .ptr 1 g7 0, .bool false, v, .int .i64 i, .junk, .junk, .junk, .junk, .junk, .junk, .junk, .junk, .junk, .junk, .junk, .junk, .junk, .junk, .junk, .junk, .junk, .junk, .junk, .junk, .junk, .junk, .junk, .junk, .junk, .junk, .junk, .junk, .junk, .junk, .junk, .junk, .junk, .junk, .junk, .junk, .junk, .junk, .junk, .junk, .junk, .junk, .junk, .junk, .junk, .junk, .junk, .junk, .junk, .junk, .junk, .junk, .junk, .junk, .junk, .junk, .junk, .junk, .junk, .junk, .junk, .junk, .junk, .junk, .junk, .junk, .junk, .junk, .junk, .junk, .junk, .junk, .junk, .junk, .junk, .junk, .junk, .junk, .junk, .junk, .junk, .junk, .junk, .junk, .junk, .junk, .junk, .junk, .junk, .junk, .junk, .junk, .junk, .junk, .junk] ∧ L = [(g4, .cells tR [.str (resF l n k).p, .str (resF l n k).d, .int .i64 n.v, .int .i64 n.m, .int .i64 n.c, .int .i64 n.o, kidsA (resF l n k).kids]), (g7, .cells tX [.str n.p, .str n.d, .int .i64 n.v, .int .i64 n.m, .int .i64 n.c, .int .i64 n.o, .int .i64 n.k]), (gk, o)]) l.length
    [.junk, .int .i64 k, rdX l, .junk, .ptr 0 g4 0, .junk, .junk, .ptr 1 g7 0, .bool false, .nils, .int .i64 (0 : Nat), .junk, .junk, .junk, .junk, .junk, .junk, .junk, .junk, .junk, .junk, .junk, .junk, .junk, .junk, .junk, .junk, .junk, .junk, .junk, .junk, .junk, .junk, .junk, .junk, .junk, .junk, .junk, .junk, .junk, .junk, .junk, .junk, .junk, .junk, .junk, .junk, .junk, .junk, .junk, .junk, .junk, .junk, .junk, .junk, .junk, .junk, .junk, .junk, .junk, .junk, .junk, .junk, .junk, .junk, .junk, .junk, .junk, .junk, .junk, .junk, .junk, .junk, .junk, .junk, .junk, .junk, .junk, .junk, .junk, .junk, .junk, .junk, .junk, .junk, .junk, .junk, .junk, .junk, .junk, .junk, .junk, .junk, .junk, .junk, .junk, .junk, .junk, .junk, .junk, .junk, .junk, .junk, .junk, .junk, .junk] [(g4, .cells tR [.str (resF l n k).p, .str (resF l n k).d, .int .i64 n.v, .int .i64 n.m, .int .i64 n.c, .int .i64 n.o, kidsA (resF l n k).kids]), (g7, .cells tX [.str n.p, .str n.d, .int .i64 n.v, .int .i64 n.m, .int .i64 n.c, .int .i64 n.o, .int .i64 n.k]), (0, .dead)] (Weak.sel ?_ [0, 1, 9] (by decide) ?_) ⟨0, .nils, 0, .dead, by omega, by omega, fun _ => rfl, .inl ⟨rfl, rfl, rfl⟩, rfl, rfl⟩ ?_
  · repeat (first | exact trivial | refine And.intro (Sub.junk _) ?_ | refine And.intro (Sub.refl _) ?_ | refine And.intro (Sub.sl _ _ _ _ _) ?_ | refine And.intro (Sub.ptr _ _ _ _) ?_)
  · repeat (first | exact trivial | refine And.intro rfl ?_ | refine And.intro (SubO.refl _) ?_ | refine And.intro trivial ?_ | refine And.intro (SubO.cells (by repeat (first | exact trivial | refine And.intro (Sub.refl _) ?_ | refine And.intro (Sub.sl _ _ _ _ _) ?_ | refine And.intro (Sub.ptr _ _ _ _) ?_))) ?_)
  rintro m env L ⟨i, v, gk, o, rfl, hi, hi0, hv, rfl, rfl⟩
  repeat (first | refine OpsA.cons ?_ | refine OpsA.nil ?_ | refine OrdA.cons rfl ?_ | refine OrdA.nil ?_ | refine OrdW.cons rfl ?_ | refine OrdW.nil ?_ | refine OrdK.cons rfl ?_ | refine OrdK.nil ?_ | refine OrdN.one rfl ?_ | refine OrdN.nil ?_ | refine Run.textA C_ok (aopC_sound C_ok) ?_ | refine And.intro rfl ?_ | refine And.intro (Nat.le_of_ble_eq_true rfl) ?_ | refine And.intro (Int.natCast_nonneg _) ?_ | refine fun (_ : Nat) => ?_ | refine Ord.go ?_ | refine Run.go rfl ?_ | refine Cont.go rfl ?_ | refine OrdP.go ?_)
  refine ⟨fun h => ?_, fun h => ?_⟩
  · have h : (i : Int) < (l.length : Int) := h
    repeat (first | refine OpsA.cons ?_ | refine OpsA.nil ?_ | refine OrdA.cons rfl ?_ | refine OrdA.nil ?_ | refine OrdW.cons rfl ?_ | refine OrdW.nil ?_ | refine OrdK.cons rfl ?_ | refine OrdK.nil ?_ | refine OrdN.one rfl ?_ | refine OrdN.nil ?_ | refine Run.textA C_ok (aopC_sound C_ok) ?_ | refine And.intro rfl ?_ | refine And.intro (Nat.le_of_ble_eq_true rfl) ?_ | refine And.intro (Int.natCast_nonneg _) ?_ | refine fun (_ : Nat) => ?_ | refine Ord.go ?_ | refine Run.go rfl ?_ | refine Cont.go rfl ?_ | refine OrdP.go ?_)
    refine ⟨fun h7 => ?_, fun h7 => ?_⟩
    · have h7 : k = 7 := h7
      obtain ⟨x, ex⟩ : ∃ x, l[i]? = some x := ⟨_, List.getElem?_eq_getElem (by omega)⟩
      repeat (first | refine OpsA.cons ?_ | refine OpsA.nil ?_ | refine OrdA.cons rfl ?_ | refine OrdA.nil ?_ | refine OrdW.cons rfl ?_ | refine OrdW.nil ?_ | refine OrdK.cons rfl ?_ | refine OrdK.nil ?_ | refine OrdN.one rfl ?_ | refine OrdN.nil ?_ | refine Run.textA C_ok (aopC_sound C_ok) ?_ | refine And.intro rfl ?_ | refine And.intro (Nat.le_of_ble_eq_true rfl) ?_ | refine And.intro (Int.natCast_nonneg _) ?_ | refine fun (_ : Nat) => ?_ | refine Ord.go ?_ | refine Run.go rfl ?_ | refine Cont.go rfl ?_ | refine OrdP.go ?_)
      refine ⟨h, encX x, map_at encX ex, ?_⟩
      repeat (first | refine OpsA.cons ?_ | refine OpsA.nil ?_ | refine OrdA.cons rfl ?_ | refine OrdA.nil ?_ | refine OrdW.cons rfl ?_ | refine OrdW.nil ?_ | refine OrdK.cons rfl ?_ | refine OrdK.nil ?_ | refine OrdN.one rfl ?_ | refine OrdN.nil ?_ | refine Run.textA C_ok (aopC_sound C_ok) ?_ | refine And.intro rfl ?_ | refine And.intro (Nat.le_of_ble_eq_true rfl) ?_ | refine And.intro (Int.natCast_nonneg _) ?_ | refine fun (_ : Nat) => ?_ | refine Ord.go ?_ | refine Run.go rfl ?_ | refine Cont.go rfl ?_ | refine OrdP.go ?_)
      refine ACallT.ok (ACall.ret (parent_spec x.p) ?_)
      repeat (first | refine OpsA.cons ?_ | refine OpsA.nil ?_ | refine OrdA.cons rfl ?_ | refine OrdA.nil ?_ | refine OrdW.cons rfl ?_ | refine OrdW.nil ?_ | refine OrdK.cons rfl ?_ | refine OrdK.nil ?_ | refine OrdN.one rfl ?_ | refine OrdN.nil ?_ | refine Run.textA C_ok (aopC_sound C_ok) ?_ | refine And.intro rfl ?_ | refine And.intro (Nat.le_of_ble_eq_true rfl) ?_ | refine And.intro (Int.natCast_nonneg _) ?_ | refine fun (_ : Nat) => ?_ | refine Ord.go ?_ | refine Run.go rfl ?_ | refine Cont.go rfl ?_ | refine OrdP.go ?_)
      refine ⟨h, encX x, map_at encX ex, ?_⟩
      repeat (first | refine OpsA.cons ?_ | refine OpsA.nil ?_ | refine OrdA.cons rfl ?_ | refine OrdA.nil ?_ | refine OrdW.cons rfl ?_ | refine OrdW.nil ?_ | refine OrdK.cons rfl ?_ | refine OrdK.nil ?_ | refine OrdN.one rfl ?_ | refine OrdN.nil ?_ | refine Run.textA C_ok (aopC_sound C_ok) ?_ | refine And.intro rfl ?_ | refine And.intro (Nat.le_of_ble_eq_true rfl) ?_ | refine And.intro (Int.natCast_nonneg _) ?_ | refine fun (_ : Nat) => ?_ | refine Ord.go ?_ | refine Run.go rfl ?_ | refine Cont.go rfl ?_ | refine OrdP.go ?_)
      refine ACallT.ok (ACall.ret (name_spec x.p) ?_)
      repeat (first | refine OpsA.cons ?_ | refine OpsA.nil ?_ | refine OrdA.cons rfl ?_ | refine OrdA.nil ?_ | refine OrdW.cons rfl ?_ | refine OrdW.nil ?_ | refine OrdK.cons rfl ?_ | refine OrdK.nil ?_ | refine OrdN.one rfl ?_ | refine OrdN.nil ?_ | refine Run.textA C_ok (aopC_sound C_ok) ?_ | refine And.intro rfl ?_ | refine And.intro (Nat.le_of_ble_eq_true rfl) ?_ | refine And.intro (Int.natCast_nonneg _) ?_ | refine fun (_ : Nat) => ?_ | refine Ord.go ?_ | refine Run.go rfl ?_ | refine Cont.go rfl ?_ | refine OrdP.go ?_)
      refine ACallT.ok (ACall.ret (num_spec (parentE x.p)) ?_)
      have hm := kids_more ex n.p
      repeat (first | refine OpsA.cons ?_ | refine OpsA.nil ?_ | refine OrdA.cons rfl ?_ | refine OrdA.nil ?_ | refine OrdW.cons rfl ?_ | refine OrdW.nil ?_ | refine OrdK.cons rfl ?_ | refine OrdK.nil ?_ | refine OrdN.one rfl ?_ | refine OrdN.nil ?_ | refine Run.textA C_ok (aopC_sound C_ok) ?_ | refine And.intro rfl ?_ | refine And.intro (Nat.le_of_ble_eq_true rfl) ?_ | refine And.intro (Int.natCast_nonneg _) ?_ | refine fun (_ : Nat) => ?_ | refine Ord.go ?_ | refine Run.go rfl ?_ | refine Cont.go rfl ?_ | refine OrdP.go ?_)
      refine ⟨fun h1 => ?_, fun h1 => ?_⟩
      · have h1 : parentE x.p = 0 := h1
        repeat (first | refine OpsA.cons ?_ | refine OpsA.nil ?_ | refine OrdA.cons rfl ?_ | refine OrdA.nil ?_ | refine OrdW.cons rfl ?_ | refine OrdW.nil ?_ | refine OrdK.cons rfl ?_ | refine OrdK.nil ?_ | refine OrdN.one rfl ?_ | refine OrdN.nil ?_ | refine Run.textA C_ok (aopC_sound C_ok) ?_ | refine And.intro rfl ?_ | refine And.intro (Nat.le_of_ble_eq_true rfl) ?_ | refine And.intro (Int.natCast_nonneg _) ?_ | refine fun (_ : Nat) => ?_ | refine Ord.go ?_ | refine Run.go rfl ?_ | refine Cont.go rfl ?_ | refine OrdP.go ?_)
        refine ⟨fun h2 => ?_, fun h2 => ?_⟩
        · have h2 : parentB x.p = n.p := h2
          have hc : childB x.p n.p := ⟨h1, h2⟩
          rw [if_pos hc] at hm
          have hm2 : (kidsF (l.take (i + 1)) n.p).map (fun y => nameB y.p) = ((kidsF (l.take i) n.p).map fun y => nameB y.p) ++ [nameB x.p] := by rw [hm, List.map_append]; rfl
          have hlen : ((kidsF (l.take i) n.p).map fun y => nameB y.p).length ≤ 64 := by
            rw [List.length_map]
            have h1 := List.length_filter_le (fun x : Fu => decide (childB x.p n.p)) (l.take i)
            rw [List.length_take] at h1
            unfold kidsF
            omega
          generalize ((kidsF (l.take i) n.p).map fun y => nameB y.p) = ns at hv hlen hm2
          repeat (first | refine OpsA.cons ?_ | refine OpsA.nil ?_ | refine OrdA.cons rfl ?_ | refine OrdA.nil ?_ | refine OrdW.cons rfl ?_ | refine OrdW.nil ?_ | refine OrdK.cons rfl ?_ | refine OrdK.nil ?_ | refine OrdN.one rfl ?_ | refine OrdN.nil ?_ | refine Run.textA C_ok (aopC_sound C_ok) ?_ | refine And.intro rfl ?_ | refine And.intro (Nat.le_of_ble_eq_true rfl) ?_ | refine And.intro (Int.natCast_nonneg _) ?_ | refine fun (_ : Nat) => ?_ | refine Ord.go ?_ | refine Run.go rfl ?_ | refine Cont.go rfl ?_ | refine OrdP.go ?_)
          rcases hv with ⟨e0, rfl, rfl⟩ | ⟨Cp, rfl, rfl⟩
          · repeat (first | refine OpsA.cons ?_ | refine OpsA.nil ?_ | refine OrdA.cons rfl ?_ | refine OrdA.nil ?_ | refine OrdW.cons rfl ?_ | refine OrdW.nil ?_ | refine OrdK.cons rfl ?_ | refine OrdK.nil ?_ | refine OrdN.one rfl ?_ | refine OrdN.nil ?_ | refine Run.textA C_ok (aopC_sound C_ok) ?_ | refine And.intro rfl ?_ | refine And.intro (Nat.le_of_ble_eq_true rfl) ?_ | refine And.intro (Int.natCast_nonneg _) ?_ | refine fun (_ : Nat) => ?_ | refine Ord.go ?_ | refine Run.go rfl ?_ | refine Cont.go rfl ?_ | refine OrdP.go ?_)
            refine ⟨fun h => absurd h (List.cons_ne_nil _ _), fun _ => ?_⟩
            repeat (first | refine OpsA.cons ?_ | refine OpsA.nil ?_ | refine OrdA.cons rfl ?_ | refine OrdA.nil ?_ | refine OrdW.cons rfl ?_ | refine OrdW.nil ?_ | refine OrdK.cons rfl ?_ | refine OrdK.nil ?_ | refine OrdN.one rfl ?_ | refine OrdN.nil ?_ | refine Run.textA C_ok (aopC_sound C_ok) ?_ | refine And.intro rfl ?_ | refine And.intro (Nat.le_of_ble_eq_true rfl) ?_ | refine And.intro (Int.natCast_nonneg _) ?_ | refine fun (_ : Nat) => ?_ | refine Ord.go ?_ | refine Run.go rfl ?_ | refine Cont.go rfl ?_ | refine OrdP.go ?_)
            rename_i g' Cp'
            repeat (first | refine OpsA.cons ?_ | refine OpsA.nil ?_ | refine OrdA.cons rfl ?_ | refine OrdA.nil ?_ | refine OrdW.cons rfl ?_ | refine OrdW.nil ?_ | refine OrdK.cons rfl ?_ | refine OrdK.nil ?_ | refine OrdN.one rfl ?_ | refine OrdN.nil ?_ | refine Run.textA C_ok (aopC_sound C_ok) ?_ | refine And.intro rfl ?_ | refine And.intro (Nat.le_of_ble_eq_true rfl) ?_ | refine And.intro (Int.natCast_nonneg _) ?_ | refine fun (_ : Nat) => ?_ | refine Ord.go ?_ | refine Run.go rfl ?_ | refine Cont.go rfl ?_ | refine OrdP.go ?_)
            refine fun r hr => ?_
            obtain rfl := add1 hr (by omega)
            repeat (first | refine OpsA.cons ?_ | refine OpsA.nil ?_ | refine OrdA.cons rfl ?_ | refine OrdA.nil ?_ | refine OrdW.cons rfl ?_ | refine OrdW.nil ?_ | refine OrdK.cons rfl ?_ | refine OrdK.nil ?_ | refine OrdN.one rfl ?_ | refine OrdN.nil ?_ | refine Run.textA C_ok (aopC_sound C_ok) ?_ | refine And.intro rfl ?_ | refine And.intro (Nat.le_of_ble_eq_true rfl) ?_ | refine And.intro (Int.natCast_nonneg _) ?_ | refine fun (_ : Nat) => ?_ | refine Ord.go ?_ | refine Run.go rfl ?_ | refine Cont.go rfl ?_ | refine OrdP.go ?_)
            refine Cont.lpW ?_
            refine ⟨l.length - (i + 1), _, _, by omega, Weak.sel ?_ [0, 1, 4] (by decide) ?_, ⟨i + 1, .sl 2 g' Cp' 1, g', _, rfl, by omega, fun e => absurd h7 e, hm2.symm ▸ LN.one e0, rfl, rfl⟩⟩
            · repeat (first | exact trivial | refine And.intro (Sub.junk _) ?_ | refine And.intro (Sub.refl _) ?_ | refine And.intro (Sub.sl _ _ _ _ _) ?_ | refine And.intro (Sub.ptr _ _ _ _) ?_)
            · repeat (first | exact trivial | refine And.intro rfl ?_ | refine And.intro (SubO.refl _) ?_ | refine And.intro trivial ?_ | refine And.intro (SubO.cells (by repeat (first | exact trivial | refine And.intro (Sub.refl _) ?_ | refine And.intro (Sub.sl _ _ _ _ _) ?_ | refine And.intro (Sub.ptr _ _ _ _) ?_))) ?_)
          · repeat (first | refine OpsA.cons ?_ | refine OpsA.nil ?_ | refine OrdA.cons rfl ?_ | refine OrdA.nil ?_ | refine OrdW.cons rfl ?_ | refine OrdW.nil ?_ | refine OrdK.cons rfl ?_ | refine OrdK.nil ?_ | refine OrdN.one rfl ?_ | refine OrdN.nil ?_ | refine Run.textA C_ok (aopC_sound C_ok) ?_ | refine And.intro rfl ?_ | refine And.intro (Nat.le_of_ble_eq_true rfl) ?_ | refine And.intro (Int.natCast_nonneg _) ?_ | refine fun (_ : Nat) => ?_ | refine Ord.go ?_ | refine Run.go rfl ?_ | refine Cont.go rfl ?_ | refine OrdP.go ?_)
            refine ⟨by simp, ?_⟩
            repeat (first | refine OpsA.cons ?_ | refine OpsA.nil ?_ | refine OrdA.cons rfl ?_ | refine OrdA.nil ?_ | refine OrdW.cons rfl ?_ | refine OrdW.nil ?_ | refine OrdK.cons rfl ?_ | refine OrdK.nil ?_ | refine OrdN.one rfl ?_ | refine OrdN.nil ?_ | refine Run.textA C_ok (aopC_sound C_ok) ?_ | refine And.intro rfl ?_ | refine And.intro (Nat.le_of_ble_eq_true rfl) ?_ | refine And.intro (Int.natCast_nonneg _) ?_ | refine fun (_ : Nat) => ?_ | refine Ord.go ?_ | refine Run.go rfl ?_ | refine Cont.go rfl ?_ | refine OrdP.go ?_)
            refine ⟨by simp; omega, ?_⟩
            repeat (first | refine OpsA.cons ?_ | refine OpsA.nil ?_ | refine OrdA.cons rfl ?_ | refine OrdA.nil ?_ | refine OrdW.cons rfl ?_ | refine OrdW.nil ?_ | refine OrdK.cons rfl ?_ | refine OrdK.nil ?_ | refine OrdN.one rfl ?_ | refine OrdN.nil ?_ | refine Run.textA C_ok (aopC_sound C_ok) ?_ | refine And.intro rfl ?_ | refine And.intro (Nat.le_of_ble_eq_true rfl) ?_ | refine And.intro (Int.natCast_nonneg _) ?_ | refine fun (_ : Nat) => ?_ | refine Ord.go ?_ | refine Run.go rfl ?_ | refine Cont.go rfl ?_ | refine OrdP.go ?_)
            rename_i g' Cp'
            repeat (first | refine OpsA.cons ?_ | refine OpsA.nil ?_ | refine OrdA.cons rfl ?_ | refine OrdA.nil ?_ | refine OrdW.cons rfl ?_ | refine OrdW.nil ?_ | refine OrdK.cons rfl ?_ | refine OrdK.nil ?_ | refine OrdN.one rfl ?_ | refine OrdN.nil ?_ | refine Run.textA C_ok (aopC_sound C_ok) ?_ | refine And.intro rfl ?_ | refine And.intro (Nat.le_of_ble_eq_true rfl) ?_ | refine And.intro (Int.natCast_nonneg _) ?_ | refine fun (_ : Nat) => ?_ | refine Ord.go ?_ | refine Run.go rfl ?_ | refine Cont.go rfl ?_ | refine OrdP.go ?_)
            refine fun r hr => ?_
            obtain rfl := add1 hr (by omega)
            repeat (first | refine OpsA.cons ?_ | refine OpsA.nil ?_ | refine OrdA.cons rfl ?_ | refine OrdA.nil ?_ | refine OrdW.cons rfl ?_ | refine OrdW.nil ?_ | refine OrdK.cons rfl ?_ | refine OrdK.nil ?_ | refine OrdN.one rfl ?_ | refine OrdN.nil ?_ | refine Run.textA C_ok (aopC_sound C_ok) ?_ | refine And.intro rfl ?_ | refine And.intro (Nat.le_of_ble_eq_true rfl) ?_ | refine And.intro (Int.natCast_nonneg _) ?_ | refine fun (_ : Nat) => ?_ | refine Ord.go ?_ | refine Run.go rfl ?_ | refine Cont.go rfl ?_ | refine OrdP.go ?_)
            refine Cont.lpW ?_
            refine ⟨l.length - (i + 1), _, _, by omega, Weak.sel ?_ [0, 1, 2] (by decide) ?_, ⟨i + 1, .sl 2 g' Cp' ((ns.map AV.str).length + 1), g', _, rfl, by omega, fun e => absurd h7 e, hm2.symm ▸ LN.snoc, rfl, rfl⟩⟩
            · repeat (first | exact trivial | refine And.intro (Sub.junk _) ?_ | refine And.intro (Sub.refl _) ?_ | refine And.intro (Sub.sl _ _ _ _ _) ?_ | refine And.intro (Sub.ptr _ _ _ _) ?_)
            · repeat (first | exact trivial | refine And.intro rfl ?_ | refine And.intro (SubO.refl _) ?_ | refine And.intro trivial ?_ | refine And.intro (SubO.cells (by repeat (first | exact trivial | refine And.intro (Sub.refl _) ?_ | refine And.intro (Sub.sl _ _ _ _ _) ?_ | refine And.intro (Sub.ptr _ _ _ _) ?_))) ?_)
        · have h2 : ¬ parentB x.p = n.p := h2
          have hc : ¬ childB x.p n.p := fun e => h2 e.2
          rw [if_neg hc, List.append_nil] at hm
          repeat (first | refine OpsA.cons ?_ | refine OpsA.nil ?_ | refine OrdA.cons rfl ?_ | refine OrdA.nil ?_ | refine OrdW.cons rfl ?_ | refine OrdW.nil ?_ | refine OrdK.cons rfl ?_ | refine OrdK.nil ?_ | refine OrdN.one rfl ?_ | refine OrdN.nil ?_ | refine Run.textA C_ok (aopC_sound C_ok) ?_ | refine And.intro rfl ?_ | refine And.intro (Nat.le_of_ble_eq_true rfl) ?_ | refine And.intro (Int.natCast_nonneg _) ?_ | refine fun (_ : Nat) => ?_ | refine Ord.go ?_ | refine Run.go rfl ?_ | refine Cont.go rfl ?_ | refine OrdP.go ?_)
          refine fun r hr => ?_
          obtain rfl := add1 hr (by omega)
          repeat (first | refine OpsA.cons ?_ | refine OpsA.nil ?_ | refine OrdA.cons rfl ?_ | refine OrdA.nil ?_ | refine OrdW.cons rfl ?_ | refine OrdW.nil ?_ | refine OrdK.cons rfl ?_ | refine OrdK.nil ?_ | refine OrdN.one rfl ?_ | refine OrdN.nil ?_ | refine Run.textA C_ok (aopC_sound C_ok) ?_ | refine And.intro rfl ?_ | refine And.intro (Nat.le_of_ble_eq_true rfl) ?_ | refine And.intro (Int.natCast_nonneg _) ?_ | refine fun (_ : Nat) => ?_ | refine Ord.go ?_ | refine Run.go rfl ?_ | refine Cont.go rfl ?_ | refine OrdP.go ?_)
          refine Cont.lpW ?_
          refine ⟨l.length - (i + 1), _, _, by omega, Weak.sel ?_ [0, 1, 2] (by decide) ?_, ⟨i + 1, v, gk, o, rfl, by omega, fun e => absurd h7 e, hm.symm ▸ hv, rfl, rfl⟩⟩
          · repeat (first | exact trivial | refine And.intro (Sub.junk _) ?_ | refine And.intro (Sub.refl _) ?_ | refine And.intro (Sub.sl _ _ _ _ _) ?_ | refine And.intro (Sub.ptr _ _ _ _) ?_)
          · repeat (first | exact trivial | refine And.intro rfl ?_ | refine And.intro (SubO.refl _) ?_ | refine And.intro trivial ?_ | refine And.intro (SubO.cells (by repeat (first | exact trivial | refine And.intro (Sub.refl _) ?_ | refine And.intro (Sub.sl _ _ _ _ _) ?_ | refine And.intro (Sub.ptr _ _ _ _) ?_))) ?_)
      · have h1 : ¬ parentE x.p = 0 := h1
        have hc : ¬ childB x.p n.p := fun e => h1 e.1
        rw [if_neg hc, List.append_nil] at hm
        repeat (first | refine OpsA.cons ?_ | refine OpsA.nil ?_ | refine OrdA.cons rfl ?_ | refine OrdA.nil ?_ | refine OrdW.cons rfl ?_ | refine OrdW.nil ?_ | refine OrdK.cons rfl ?_ | refine OrdK.nil ?_ | refine OrdN.one rfl ?_ | refine OrdN.nil ?_ | refine Run.textA C_ok (aopC_sound C_ok) ?_ | refine And.intro rfl ?_ | refine And.intro (Nat.le_of_ble_eq_true rfl) ?_ | refine And.intro (Int.natCast_nonneg _) ?_ | refine fun (_ : Nat) => ?_ | refine Ord.go ?_ | refine Run.go rfl ?_ | refine Cont.go rfl ?_ | refine OrdP.go ?_)
        refine fun r hr => ?_
        obtain rfl := add1 hr (by omega)
        repeat (first | refine OpsA.cons ?_ | refine OpsA.nil ?_ | refine OrdA.cons rfl ?_ | refine OrdA.nil ?_ | refine OrdW.cons rfl ?_ | refine OrdW.nil ?_ | refine OrdK.cons rfl ?_ | refine OrdK.nil ?_ | refine OrdN.one rfl ?_ | refine OrdN.nil ?_ | refine Run.textA C_ok (aopC_sound C_ok) ?_ | refine And.intro rfl ?_ | refine And.intro (Nat.le_of_ble_eq_true rfl) ?_ | refine And.intro (Int.natCast_nonneg _) ?_ | refine fun (_ : Nat) => ?_ | refine Ord.go ?_ | refine Run.go rfl ?_ | refine Cont.go rfl ?_ | refine OrdP.go ?_)
        refine Cont.lpW ?_
        refine ⟨l.length - (i + 1), _, _, by omega, Weak.sel ?_ [0, 1, 2] (by decide) ?_, ⟨i + 1, v, gk, o, rfl, by omega, fun e => absurd h7 e, hm.symm ▸ hv, rfl, rfl⟩⟩
        · repeat (first | exact trivial | refine And.intro (Sub.junk _) ?_ | refine And.intro (Sub.refl _) ?_ | refine And.intro (Sub.sl _ _ _ _ _) ?_ | refine And.intro (Sub.ptr _ _ _ _) ?_)
        · repeat (first | exact trivial | refine And.intro rfl ?_ | refine And.intro (SubO.refl _) ?_ | refine And.intro trivial ?_ | refine And.intro (SubO.cells (by repeat (first | exact trivial | refine And.intro (Sub.refl _) ?_ | refine And.intro (Sub.sl _ _ _ _ _) ?_ | refine And.intro (Sub.ptr _ _ _ _) ?_))) ?_)
    · have h7 : ¬ k = 7 := h7
      have hns : ((kidsF (l.take i) n.p).map fun y => nameB y.p) = (resF l n k).kids := by
        rw [hi0 h7]; unfold resF; rw [if_neg h7]; rfl
      rw [hns] at hv
      have hkl : (resF l n k).kids.length ≤ 1000 := by
        unfold resF
        show (if k = 7 then (kidsF l n.p).map fun y => nameB y.p else []).length ≤ 1000
        split
        · rw [List.length_map]
          have h1 := List.length_filter_le (fun x : Fu => decide (childB x.p n.p)) l
          unfold kidsF
          omega
        · exact Nat.zero_le _
      have htx := texts_spec (resF l n k).kids (resF l n k).kids hkl
      rw [decide_eq_true rfl] at htx
      repeat (first | refine OpsA.cons ?_ | refine OpsA.nil ?_ | refine OrdA.cons rfl ?_ | refine OrdA.nil ?_ | refine OrdW.cons rfl ?_ | refine OrdW.nil ?_ | refine OrdK.cons rfl ?_ | refine OrdK.nil ?_ | refine OrdN.one rfl ?_ | refine OrdN.nil ?_ | refine Run.textA C_ok (aopC_sound C_ok) ?_ | refine And.intro rfl ?_ | refine And.intro (Nat.le_of_ble_eq_true rfl) ?_ | refine And.intro (Int.natCast_nonneg _) ?_ | refine fun (_ : Nat) => ?_ | refine Ord.go ?_ | refine Run.go rfl ?_ | refine Cont.go rfl ?_ | refine OrdP.go ?_)
      refine ⟨fun h5 => ?_, fun h5 => ?_⟩
      · have h5 : k = 5 := h5
        repeat (first | refine OpsA.cons ?_ | refine OpsA.nil ?_ | refine OrdA.cons rfl ?_ | refine OrdA.nil ?_ | refine OrdW.cons rfl ?_ | refine OrdW.nil ?_ | refine OrdK.cons rfl ?_ | refine OrdK.nil ?_ | refine OrdN.one rfl ?_ | refine OrdN.nil ?_ | refine Run.textA C_ok (aopC_sound C_ok) ?_ | refine And.intro rfl ?_ | refine And.intro (Nat.le_of_ble_eq_true rfl) ?_ | refine And.intro (Int.natCast_nonneg _) ?_ | refine fun (_ : Nat) => ?_ | refine Ord.go ?_ | refine Run.go rfl ?_ | refine Cont.go rfl ?_ | refine OrdP.go ?_)
        refine ⟨fun _ => ?_, fun h => absurd rfl h⟩
        repeat (first | refine OpsA.cons ?_ | refine OpsA.nil ?_ | refine OrdA.cons rfl ?_ | refine OrdA.nil ?_ | refine OrdW.cons rfl ?_ | refine OrdW.nil ?_ | refine OrdK.cons rfl ?_ | refine OrdK.nil ?_ | refine OrdN.one rfl ?_ | refine OrdN.nil ?_ | refine Run.textA C_ok (aopC_sound C_ok) ?_ | refine And.intro rfl ?_ | refine And.intro (Nat.le_of_ble_eq_true rfl) ?_ | refine And.intro (Int.natCast_nonneg _) ?_ | refine fun (_ : Nat) => ?_ | refine Ord.go ?_ | refine Run.go rfl ?_ | refine Cont.go rfl ?_ | refine OrdP.go ?_)
        refine ⟨fun _ => ?_, fun h => absurd (show (resF l n k).d = n.d by unfold resF; rw [if_pos h5]) h⟩
        repeat (first | refine OpsA.cons ?_ | refine OpsA.nil ?_ | refine OrdA.cons rfl ?_ | refine OrdA.nil ?_ | refine OrdW.cons rfl ?_ | refine OrdW.nil ?_ | refine OrdK.cons rfl ?_ | refine OrdK.nil ?_ | refine OrdN.one rfl ?_ | refine OrdN.nil ?_ | refine Run.textA C_ok (aopC_sound C_ok) ?_ | refine And.intro rfl ?_ | refine And.intro (Nat.le_of_ble_eq_true rfl) ?_ | refine And.intro (Int.natCast_nonneg _) ?_ | refine fun (_ : Nat) => ?_ | refine Ord.go ?_ | refine Run.go rfl ?_ | refine Cont.go rfl ?_ | refine OrdP.go ?_)
        refine ⟨fun _ => ?_, fun h => absurd rfl h⟩
        repeat (first | refine OpsA.cons ?_ | refine OpsA.nil ?_ | refine OrdA.cons rfl ?_ | refine OrdA.nil ?_ | refine OrdW.cons rfl ?_ | refine OrdW.nil ?_ | refine OrdK.cons rfl ?_ | refine OrdK.nil ?_ | refine OrdN.one rfl ?_ | refine OrdN.nil ?_ | refine Run.textA C_ok (aopC_sound C_ok) ?_ | refine And.intro rfl ?_ | refine And.intro (Nat.le_of_ble_eq_true rfl) ?_ | refine And.intro (Int.natCast_nonneg _) ?_ | refine fun (_ : Nat) => ?_ | refine Ord.go ?_ | refine Run.go rfl ?_ | refine Cont.go rfl ?_ | refine OrdP.go ?_)
        refine ⟨fun _ => ?_, fun h => absurd rfl h⟩
        repeat (first | refine OpsA.cons ?_ | refine OpsA.nil ?_ | refine OrdA.cons rfl ?_ | refine OrdA.nil ?_ | refine OrdW.cons rfl ?_ | refine OrdW.nil ?_ | refine OrdK.cons rfl ?_ | refine OrdK.nil ?_ | refine OrdN.one rfl ?_ | refine OrdN.nil ?_ | refine Run.textA C_ok (aopC_sound C_ok) ?_ | refine And.intro rfl ?_ | refine And.intro (Nat.le_of_ble_eq_true rfl) ?_ | refine And.intro (Int.natCast_nonneg _) ?_ | refine fun (_ : Nat) => ?_ | refine Ord.go ?_ | refine Run.go rfl ?_ | refine Cont.go rfl ?_ | refine OrdP.go ?_)
        refine ⟨fun _ => ?_, fun h => absurd rfl h⟩
        repeat (first | refine OpsA.cons ?_ | refine OpsA.nil ?_ | refine OrdA.cons rfl ?_ | refine OrdA.nil ?_ | refine OrdW.cons rfl ?_ | refine OrdW.nil ?_ | refine OrdK.cons rfl ?_ | refine OrdK.nil ?_ | refine OrdN.one rfl ?_ | refine OrdN.nil ?_ | refine Run.textA C_ok (aopC_sound C_ok) ?_ | refine And.intro rfl ?_ | refine And.intro (Nat.le_of_ble_eq_true rfl) ?_ | refine And.intro (Int.natCast_nonneg _) ?_ | refine fun (_ : Nat) => ?_ | refine Ord.go ?_ | refine Run.go rfl ?_ | refine Cont.go rfl ?_ | refine OrdP.go ?_)
        refine ⟨fun _ => ?_, fun h => absurd rfl h⟩
        repeat (first | refine OpsA.cons ?_ | refine OpsA.nil ?_ | refine OrdA.cons rfl ?_ | refine OrdA.nil ?_ | refine OrdW.cons rfl ?_ | refine OrdW.nil ?_ | refine OrdK.cons rfl ?_ | refine OrdK.nil ?_ | refine OrdN.one rfl ?_ | refine OrdN.nil ?_ | refine Run.textA C_ok (aopC_sound C_ok) ?_ | refine And.intro rfl ?_ | refine And.intro (Nat.le_of_ble_eq_true rfl) ?_ | refine And.intro (Int.natCast_nonneg _) ?_ | refine fun (_ : Nat) => ?_ | refine Ord.go ?_ | refine Run.go rfl ?_ | refine Cont.go rfl ?_ | refine OrdP.go ?_)
        refine ACallT.ok (ACall.ret_lend (.two (.same _) (hv.lend rfl)) htx rfl ?_)
        repeat (first | refine OpsA.cons ?_ | refine OpsA.nil ?_ | refine OrdA.cons rfl ?_ | refine OrdA.nil ?_ | refine OrdW.cons rfl ?_ | refine OrdW.nil ?_ | refine OrdK.cons rfl ?_ | refine OrdK.nil ?_ | refine OrdN.one rfl ?_ | refine OrdN.nil ?_ | refine Run.textA C_ok (aopC_sound C_ok) ?_ | refine And.intro rfl ?_ | refine And.intro (Nat.le_of_ble_eq_true rfl) ?_ | refine And.intro (Int.natCast_nonneg _) ?_ | refine fun (_ : Nat) => ?_ | refine Ord.go ?_ | refine Run.go rfl ?_ | refine Cont.go rfl ?_ | refine OrdP.go ?_)
        exact ⟨_, [], FinOk.drop _ _, rfl, rfl⟩
      · have h5 : ¬ k = 5 := h5
        repeat (first | refine OpsA.cons ?_ | refine OpsA.nil ?_ | refine OrdA.cons rfl ?_ | refine OrdA.nil ?_ | refine OrdW.cons rfl ?_ | refine OrdW.nil ?_ | refine OrdK.cons rfl ?_ | refine OrdK.nil ?_ | refine OrdN.one rfl ?_ | refine OrdN.nil ?_ | refine Run.textA C_ok (aopC_sound C_ok) ?_ | refine And.intro rfl ?_ | refine And.intro (Nat.le_of_ble_eq_true rfl) ?_ | refine And.intro (Int.natCast_nonneg _) ?_ | refine fun (_ : Nat) => ?_ | refine Ord.go ?_ | refine Run.go rfl ?_ | refine Cont.go rfl ?_ | refine OrdP.go ?_)
        refine ⟨fun _ => ?_, fun h => absurd rfl h⟩
        repeat (first | refine OpsA.cons ?_ | refine OpsA.nil ?_ | refine OrdA.cons rfl ?_ | refine OrdA.nil ?_ | refine OrdW.cons rfl ?_ | refine OrdW.nil ?_ | refine OrdK.cons rfl ?_ | refine OrdK.nil ?_ | refine OrdN.one rfl ?_ | refine OrdN.nil ?_ | refine Run.textA C_ok (aopC_sound C_ok) ?_ | refine And.intro rfl ?_ | refine And.intro (Nat.le_of_ble_eq_true rfl) ?_ | refine And.intro (Int.natCast_nonneg _) ?_ | refine fun (_ : Nat) => ?_ | refine Ord.go ?_ | refine Run.go rfl ?_ | refine Cont.go rfl ?_ | refine OrdP.go ?_)
        refine ⟨fun _ => ?_, fun h => absurd (show (resF l n k).d = eS by unfold resF; rw [if_neg h5]) h⟩
        repeat (first | refine OpsA.cons ?_ | refine OpsA.nil ?_ | refine OrdA.cons rfl ?_ | refine OrdA.nil ?_ | refine OrdW.cons rfl ?_ | refine OrdW.nil ?_ | refine OrdK.cons rfl ?_ | refine OrdK.nil ?_ | refine OrdN.one rfl ?_ | refine OrdN.nil ?_ | refine Run.textA C_ok (aopC_sound C_ok) ?_ | refine And.intro rfl ?_ | refine And.intro (Nat.le_of_ble_eq_true rfl) ?_ | refine And.intro (Int.natCast_nonneg _) ?_ | refine fun (_ : Nat) => ?_ | refine Ord.go ?_ | refine Run.go rfl ?_ | refine Cont.go rfl ?_ | refine OrdP.go ?_)
        refine ⟨fun _ => ?_, fun h => absurd rfl h⟩
        repeat (first | refine OpsA.cons ?_ | refine OpsA.nil ?_ | refine OrdA.cons rfl ?_ | refine OrdA.nil ?_ | refine OrdW.cons rfl ?_ | refine OrdW.nil ?_ | refine OrdK.cons rfl ?_ | refine OrdK.nil ?_ | refine OrdN.one rfl ?_ | refine OrdN.nil ?_ | refine Run.textA C_ok (aopC_sound C_ok) ?_ | refine And.intro rfl ?_ | refine And.intro (Nat.le_of_ble_eq_true rfl) ?_ | refine And.intro (Int.natCast_nonneg _) ?_ | refine fun (_ : Nat) => ?_ | refine Ord.go ?_ | refine Run.go rfl ?_ | refine Cont.go rfl ?_ | refine OrdP.go ?_)
        refine ⟨fun _ => ?_, fun h => absurd rfl h⟩
        repeat (first | refine OpsA.cons ?_ | refine OpsA.nil ?_ | refine OrdA.cons rfl ?_ | refine OrdA.nil ?_ | refine OrdW.cons rfl ?_ | refine OrdW.nil ?_ | refine OrdK.cons rfl ?_ | refine OrdK.nil ?_ | refine OrdN.one rfl ?_ | refine OrdN.nil ?_ | refine Run.textA C_ok (aopC_sound C_ok) ?_ | refine And.intro rfl ?_ | refine And.intro (Nat.le_of_ble_eq_true rfl) ?_ | refine And.intro (Int.natCast_nonneg _) ?_ | refine fun (_ : Nat) => ?_ | refine Ord.go ?_ | refine Run.go rfl ?_ | refine Cont.go rfl ?_ | refine OrdP.go ?_)
        refine ⟨fun _ => ?_, fun h => absurd rfl h⟩
        repeat (first | refine OpsA.cons ?_ | refine OpsA.nil ?_ | refine OrdA.cons rfl ?_ | refine OrdA.nil ?_ | refine OrdW.cons rfl ?_ | refine OrdW.nil ?_ | refine OrdK.cons rfl ?_ | refine OrdK.nil ?_ | refine OrdN.one rfl ?_ | refine OrdN.nil ?_ | refine Run.textA C_ok (aopC_sound C_ok) ?_ | refine And.intro rfl ?_ | refine And.intro (Nat.le_of_ble_eq_true rfl) ?_ | refine And.intro (Int.natCast_nonneg _) ?_ | refine fun (_ : Nat) => ?_ | refine Ord.go ?_ | refine Run.go rfl ?_ | refine Cont.go rfl ?_ | refine OrdP.go ?_)
        refine ⟨fun _ => ?_, fun h => absurd rfl h⟩
        repeat (first | refine OpsA.cons ?_ | refine OpsA.nil ?_ | refine OrdA.cons rfl ?_ | refine OrdA.nil ?_ | refine OrdW.cons rfl ?_ | refine OrdW.nil ?_ | refine OrdK.cons rfl ?_ | refine OrdK.nil ?_ | refine OrdN.one rfl ?_ | refine OrdN.nil ?_ | refine Run.textA C_ok (aopC_sound C_ok) ?_ | refine And.intro rfl ?_ | refine And.intro (Nat.le_of_ble_eq_true rfl) ?_ | refine And.intro (Int.natCast_nonneg _) ?_ | refine fun (_ : Nat) => ?_ | refine Ord.go ?_ | refine Run.go rfl ?_ | refine Cont.go rfl ?_ | refine OrdP.go ?_)
        refine ACallT.ok (ACall.ret_lend (.two (.same _) (hv.lend rfl)) htx rfl ?_)
        repeat (first | refine OpsA.cons ?_ | refine OpsA.nil ?_ | refine OrdA.cons rfl ?_ | refine OrdA.nil ?_ | refine OrdW.cons rfl ?_ | refine OrdW.nil ?_ | refine OrdK.cons rfl ?_ | refine OrdK.nil ?_ | refine OrdN.one rfl ?_ | refine OrdN.nil ?_ | refine Run.textA C_ok (aopC_sound C_ok) ?_ | refine And.intro rfl ?_ | refine And.intro (Nat.le_of_ble_eq_true rfl) ?_ | refine And.intro (Int.natCast_nonneg _) ?_ | refine fun (_ : Nat) => ?_ | refine Ord.go ?_ | refine Run.go rfl ?_ | refine Cont.go rfl ?_ | refine OrdP.go ?_)
        exact ⟨_, [], FinOk.drop _ _, rfl, rfl⟩
  · have h : ¬ (i : Int) < (l.length : Int) := h
    have hns : ((kidsF (l.take i) n.p).map fun y => nameB y.p) = (resF l n k).kids := by
      rw [List.take_of_length_le (by omega)]; unfold resF
      by_cases h7 : k = 7
      · rw [if_pos h7]
      · have hl0 : l = [] := List.eq_nil_of_length_eq_zero (by have := hi0 h7; omega)
        rw [if_neg h7, hl0]; rfl
    rw [hns] at hv
    have hkl : (resF l n k).kids.length ≤ 1000 := by
      unfold resF
      show (if k = 7 then (kidsF l n.p).map fun y => nameB y.p else []).length ≤ 1000
      split
      · rw [List.length_map]
        have h1 := List.length_filter_le (fun x : Fu => decide (childB x.p n.p)) l
        unfold kidsF
        omega
      · exact Nat.zero_le _
    have htx := texts_spec (resF l n k).kids (resF l n k).kids hkl
    rw [decide_eq_true rfl] at htx
    repeat (first | refine OpsA.cons ?_ | refine OpsA.nil ?_ | refine OrdA.cons rfl ?_ | refine OrdA.nil ?_ | refine OrdW.cons rfl ?_ | refine OrdW.nil ?_ | refine OrdK.cons rfl ?_ | refine OrdK.nil ?_ | refine OrdN.one rfl ?_ | refine OrdN.nil ?_ | refine Run.textA C_ok (aopC_sound C_ok) ?_ | refine And.intro rfl ?_ | refine And.intro (Nat.le_of_ble_eq_true rfl) ?_ | refine And.intro (Int.natCast_nonneg _) ?_ | refine fun (_ : Nat) => ?_ | refine Ord.go ?_ | refine Run.go rfl ?_ | refine Cont.go rfl ?_ | refine OrdP.go ?_)
    refine ⟨fun h5 => ?_, fun h5 => ?_⟩
    · have h5 : k = 5 := h5
      repeat (first | refine OpsA.cons ?_ | refine OpsA.nil ?_ | refine OrdA.cons rfl ?_ | refine OrdA.nil ?_ | refine OrdW.cons rfl ?_ | refine OrdW.nil ?_ | refine OrdK.cons rfl ?_ | refine OrdK.nil ?_ | refine OrdN.one rfl ?_ | refine OrdN.nil ?_ | refine Run.textA C_ok (aopC_sound C_ok) ?_ | refine And.intro rfl ?_ | refine And.intro (Nat.le_of_ble_eq_true rfl) ?_ | refine And.intro (Int.natCast_nonneg _) ?_ | refine fun (_ : Nat) => ?_ | refine Ord.go ?_ | refine Run.go rfl ?_ | refine Cont.go rfl ?_ | refine OrdP.go ?_)
      refine ⟨fun _ => ?_, fun h => absurd rfl h⟩
      repeat (first | refine OpsA.cons ?_ | refine OpsA.nil ?_ | refine OrdA.cons rfl ?_ | refine OrdA.nil ?_ | refine OrdW.cons rfl ?_ | refine OrdW.nil ?_ | refine OrdK.cons rfl ?_ | refine OrdK.nil ?_ | refine OrdN.one rfl ?_ | refine OrdN.nil ?_ | refine Run.textA C_ok (aopC_sound C_ok) ?_ | refine And.intro rfl ?_ | refine And.intro (Nat.le_of_ble_eq_true rfl) ?_ | refine And.intro (Int.natCast_nonneg _) ?_ | refine fun (_ : Nat) => ?_ | refine Ord.go ?_ | refine Run.go rfl ?_ | refine Cont.go rfl ?_ | refine OrdP.go ?_)
      refine ⟨fun _ => ?_, fun h => absurd (show (resF l n k).d = n.d by unfold resF; rw [if_pos h5]) h⟩
      repeat (first | refine OpsA.cons ?_ | refine OpsA.nil ?_ | refine OrdA.cons rfl ?_ | refine OrdA.nil ?_ | refine OrdW.cons rfl ?_ | refine OrdW.nil ?_ | refine OrdK.cons rfl ?_ | refine OrdK.nil ?_ | refine OrdN.one rfl ?_ | refine OrdN.nil ?_ | refine Run.textA C_ok (aopC_sound C_ok) ?_ | refine And.intro rfl ?_ | refine And.intro (Nat.le_of_ble_eq_true rfl) ?_ | refine And.intro (Int.natCast_nonneg _) ?_ | refine fun (_ : Nat) => ?_ | refine Ord.go ?_ | refine Run.go rfl ?_ | refine Cont.go rfl ?_ | refine OrdP.go ?_)
      refine ⟨fun _ => ?_, fun h => absurd rfl h⟩
      repeat (first | refine OpsA.cons ?_ | refine OpsA.nil ?_ | refine OrdA.cons rfl ?_ | refine OrdA.nil ?_ | refine OrdW.cons rfl ?_ | refine OrdW.nil ?_ | refine OrdK.cons rfl ?_ | refine OrdK.nil ?_ | refine OrdN.one rfl ?_ | refine OrdN.nil ?_ | refine Run.textA C_ok (aopC_sound C_ok) ?_ | refine And.intro rfl ?_ | refine And.intro (Nat.le_of_ble_eq_true rfl) ?_ | refine And.intro (Int.natCast_nonneg _) ?_ | refine fun (_ : Nat) => ?_ | refine Ord.go ?_ | refine Run.go rfl ?_ | refine Cont.go rfl ?_ | refine OrdP.go ?_)
      refine ⟨fun _ => ?_, fun h => absurd rfl h⟩
      repeat (first | refine OpsA.cons ?_ | refine OpsA.nil ?_ | refine OrdA.cons rfl ?_ | refine OrdA.nil ?_ | refine OrdW.cons rfl ?_ | refine OrdW.nil ?_ | refine OrdK.cons rfl ?_ | refine OrdK.nil ?_ | refine OrdN.one rfl ?_ | refine OrdN.nil ?_ | refine Run.textA C_ok (aopC_sound C_ok) ?_ | refine And.intro rfl ?_ | refine And.intro (Nat.le_of_ble_eq_true rfl) ?_ | refine And.intro (Int.natCast_nonneg _) ?_ | refine fun (_ : Nat) => ?_ | refine Ord.go ?_ | refine Run.go rfl ?_ | refine Cont.go rfl ?_ | refine OrdP.go ?_)
      refine ⟨fun _ => ?_, fun h => absurd rfl h⟩
      repeat (first | refine OpsA.cons ?_ | refine OpsA.nil ?_ | refine OrdA.cons rfl ?_ | refine OrdA.nil ?_ | refine OrdW.cons rfl ?_ | refine OrdW.nil ?_ | refine OrdK.cons rfl ?_ | refine OrdK.nil ?_ | refine OrdN.one rfl ?_ | refine OrdN.nil ?_ | refine Run.textA C_ok (aopC_sound C_ok) ?_ | refine And.intro rfl ?_ | refine And.intro (Nat.le_of_ble_eq_true rfl) ?_ | refine And.intro (Int.natCast_nonneg _) ?_ | refine fun (_ : Nat) => ?_ | refine Ord.go ?_ | refine Run.go rfl ?_ | refine Cont.go rfl ?_ | refine OrdP.go ?_)
      refine ⟨fun _ => ?_, fun h => absurd rfl h⟩
      repeat (first | refine OpsA.cons ?_ | refine OpsA.nil ?_ | refine OrdA.cons rfl ?_ | refine OrdA.nil ?_ | refine OrdW.cons rfl ?_ | refine OrdW.nil ?_ | refine OrdK.cons rfl ?_ | refine OrdK.nil ?_ | refine OrdN.one rfl ?_ | refine OrdN.nil ?_ | refine Run.textA C_ok (aopC_sound C_ok) ?_ | refine And.intro rfl ?_ | refine And.intro (Nat.le_of_ble_eq_true rfl) ?_ | refine And.intro (Int.natCast_nonneg _) ?_ | refine fun (_ : Nat) => ?_ | refine Ord.go ?_ | refine Run.go rfl ?_ | refine Cont.go rfl ?_ | refine OrdP.go ?_)
      refine ACallT.ok (ACall.ret_lend (.two (.same _) (hv.lend rfl)) htx rfl ?_)
      repeat (first | refine OpsA.cons ?_ | refine OpsA.nil ?_ | refine OrdA.cons rfl ?_ | refine OrdA.nil ?_ | refine OrdW.cons rfl ?_ | refine OrdW.nil ?_ | refine OrdK.cons rfl ?_ | refine OrdK.nil ?_ | refine OrdN.one rfl ?_ | refine OrdN.nil ?_ | refine Run.textA C_ok (aopC_sound C_ok) ?_ | refine And.intro rfl ?_ | refine And.intro (Nat.le_of_ble_eq_true rfl) ?_ | refine And.intro (Int.natCast_nonneg _) ?_ | refine fun (_ : Nat) => ?_ | refine Ord.go ?_ | refine Run.go rfl ?_ | refine Cont.go rfl ?_ | refine OrdP.go ?_)
      exact ⟨_, [], FinOk.drop _ _, rfl, rfl⟩
    · have h5 : ¬ k = 5 := h5
      repeat (first | refine OpsA.cons ?_ | refine OpsA.nil ?_ | refine OrdA.cons rfl ?_ | refine OrdA.nil ?_ | refine OrdW.cons rfl ?_ | refine OrdW.nil ?_ | refine OrdK.cons rfl ?_ | refine OrdK.nil ?_ | refine OrdN.one rfl ?_ | refine OrdN.nil ?_ | refine Run.textA C_ok (aopC_sound C_ok) ?_ | refine And.intro rfl ?_ | refine And.intro (Nat.le_of_ble_eq_true rfl) ?_ | refine And.intro (Int.natCast_nonneg _) ?_ | refine fun (_ : Nat) => ?_ | refine Ord.go ?_ | refine Run.go rfl ?_ | refine Cont.go rfl ?_ | refine OrdP.go ?_)
      refine ⟨fun _ => ?_, fun h => absurd rfl h⟩
      repeat (first | refine OpsA.cons ?_ | refine OpsA.nil ?_ | refine OrdA.cons rfl ?_ | refine OrdA.nil ?_ | refine OrdW.cons rfl ?_ | refine OrdW.nil ?_ | refine OrdK.cons rfl ?_ | refine OrdK.nil ?_ | refine OrdN.one rfl ?_ | refine OrdN.nil ?_ | refine Run.textA C_ok (aopC_sound C_ok) ?_ | refine And.intro rfl ?_ | refine And.intro (Nat.le_of_ble_eq_true rfl) ?_ | refine And.intro (Int.natCast_nonneg _) ?_ | refine fun (_ : Nat) => ?_ | refine Ord.go ?_ | refine Run.go rfl ?_ | refine Cont.go rfl ?_ | refine OrdP.go ?_)
      refine ⟨fun _ => ?_, fun h => absurd (show (resF l n k).d = eS by unfold resF; rw [if_neg h5]) h⟩
      repeat (first | refine OpsA.cons ?_ | refine OpsA.nil ?_ | refine OrdA.cons rfl ?_ | refine OrdA.nil ?_ | refine OrdW.cons rfl ?_ | refine OrdW.nil ?_ | refine OrdK.cons rfl ?_ | refine OrdK.nil ?_ | refine OrdN.one rfl ?_ | refine OrdN.nil ?_ | refine Run.textA C_ok (aopC_sound C_ok) ?_ | refine And.intro rfl ?_ | refine And.intro (Nat.le_of_ble_eq_true rfl) ?_ | refine And.intro (Int.natCast_nonneg _) ?_ | refine fun (_ : Nat) => ?_ | refine Ord.go ?_ | refine Run.go rfl ?_ | refine Cont.go rfl ?_ | refine OrdP.go ?_)
      refine ⟨fun _ => ?_, fun h => absurd rfl h⟩
      repeat (first | refine OpsA.cons ?_ | refine OpsA.nil ?_ | refine OrdA.cons rfl ?_ | refine OrdA.nil ?_ | refine OrdW.cons rfl ?_ | refine OrdW.nil ?_ | refine OrdK.cons rfl ?_ | refine OrdK.nil ?_ | refine OrdN.one rfl ?_ | refine OrdN.nil ?_ | refine Run.textA C_ok (aopC_sound C_ok) ?_ | refine And.intro rfl ?_ | refine And.intro (Nat.le_of_ble_eq_true rfl) ?_ | refine And.intro (Int.natCast_nonneg _) ?_ | refine fun (_ : Nat) => ?_ | refine Ord.go ?_ | refine Run.go rfl ?_ | refine Cont.go rfl ?_ | refine OrdP.go ?_)
      refine ⟨fun _ => ?_, fun h => absurd rfl h⟩
      repeat (first | refine OpsA.cons ?_ | refine OpsA.nil ?_ | refine OrdA.cons rfl ?_ | refine OrdA.nil ?_ | refine OrdW.cons rfl ?_ | refine OrdW.nil ?_ | refine OrdK.cons rfl ?_ | refine OrdK.nil ?_ | refine OrdN.one rfl ?_ | refine OrdN.nil ?_ | refine Run.textA C_ok (aopC_sound C_ok) ?_ | refine And.intro rfl ?_ | refine And.intro (Nat.le_of_ble_eq_true rfl) ?_ | refine And.intro (Int.natCast_nonneg _) ?_ | refine fun (_ : Nat) => ?_ | refine Ord.go ?_ | refine Run.go rfl ?_ | refine Cont.go rfl ?_ | refine OrdP.go ?_)
      refine ⟨fun _ => ?_, fun h => absurd rfl h⟩
      repeat (first | refine OpsA.cons ?_ | refine OpsA.nil ?_ | refine OrdA.cons rfl ?_ | refine OrdA.nil ?_ | refine OrdW.cons rfl ?_ | refine OrdW.nil ?_ | refine OrdK.cons rfl ?_ | refine OrdK.nil ?_ | refine OrdN.one rfl ?_ | refine OrdN.nil ?_ | refine Run.textA C_ok (aopC_sound C_ok) ?_ | refine And.intro rfl ?_ | refine And.intro (Nat.le_of_ble_eq_true rfl) ?_ | refine And.intro (Int.natCast_nonneg _) ?_ | refine fun (_ : Nat) => ?_ | refine Ord.go ?_ | refine Run.go rfl ?_ | refine Cont.go rfl ?_ | refine OrdP.go ?_)
      refine ⟨fun _ => ?_, fun h => absurd rfl h⟩
      repeat (first | refine OpsA.cons ?_ | refine OpsA.nil ?_ | refine OrdA.cons rfl ?_ | refine OrdA.nil ?_ | refine OrdW.cons rfl ?_ | refine OrdW.nil ?_ | refine OrdK.cons rfl ?_ | refine OrdK.nil ?_ | refine OrdN.one rfl ?_ | refine OrdN.nil ?_ | refine Run.textA C_ok (aopC_sound C_ok) ?_ | refine And.intro rfl ?_ | refine And.intro (Nat.le_of_ble_eq_true rfl) ?_ | refine And.intro (Int.natCast_nonneg _) ?_ | refine fun (_ : Nat) => ?_ | refine Ord.go ?_ | refine Run.go rfl ?_ | refine Cont.go rfl ?_ | refine OrdP.go ?_)
      refine ACallT.ok (ACall.ret_lend (.two (.same _) (hv.lend rfl)) htx rfl ?_)
      repeat (first | refine OpsA.cons ?_ | refine OpsA.nil ?_ | refine OrdA.cons rfl ?_ | refine OrdA.nil ?_ | refine OrdW.cons rfl ?_ | refine OrdW.nil ?_ | refine OrdK.cons rfl ?_ | refine OrdK.nil ?_ | refine OrdN.one rfl ?_ | refine OrdN.nil ?_ | refine Run.textA C_ok (aopC_sound C_ok) ?_ | refine And.intro rfl ?_ | refine And.intro (Nat.le_of_ble_eq_true rfl) ?_ | refine And.intro (Int.natCast_nonneg _) ?_ | refine fun (_ : Nat) => ?_ | refine Ord.go ?_ | refine Run.go rfl ?_ | refine Cont.go rfl ?_ | refine OrdP.go ?_)
      exact ⟨_, [], FinOk.drop _ _, rfl, rfl⟩
end Go.Proofs.YtiikjcdjgmlcgaaDoor.HBT
