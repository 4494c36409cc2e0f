/- The laws' helpers: same, find. -/
import Derived.Test.YtiikjcdjgmlcgaaDoorTdT9
import Derived.Test.YtiikjcdjgmlcgaaDoorCards
import Derived.Test.YtiikjcdjgmlcgaaDoorTie
import Derived.SevenTiedAt
namespace Go.Proofs.YtiikjcdjgmlcgaaDoor.HBT
open Go Go.Proofs.YtiikjcdjgmlcgaaDoor.HB Go.RowKit
set_option maxRecDepth 8000

abbrev rdX (l : List Fu) : AV := .ro 7 (l.map encX) l.length
theorem fx_eq (x y : Fu) : allEq [.str x.p, .str x.d, .int .i64 x.v, .int .i64 x.m, .int .i64 x.c, .int .i64 x.o, .int .i64 x.k] [.str y.p, .str y.d, .int .i64 y.v, .int .i64 y.m, .int .i64 y.c, .int .i64 y.o, .int .i64 y.k] ↔ x = y := by
  cases x; cases y; simp [allEq, eq1]
theorem chg_eq (x y : Chg) : allEq [.int .i64 x.k, .str x.p, .str x.d, .int .i64 x.v] [.int .i64 y.k, .str y.p, .str y.d, .int .i64 y.v] ↔ x = y := by
  cases x; cases y; simp [allEq, eq1]
theorem eq_of_upto {α : Type} {a b : List α} (hl : a.length = b.length) (h : ∀ j < a.length, a[j]? = b[j]?) : a = b := by
  apply List.ext_getElem?
  intro j
  by_cases hj : j < a.length
  · exact h j hj
  · rw [List.getElem?_eq_none (by omega), List.getElem?_eq_none (by omega)]
set_option maxHeartbeats 4000000 in
theorem same_spec (a b : List Fu) (ha : a.length ≤ 1000) : FnSpec C 19 [rdX a, rdX b] [] (fun r L' => r = .bool (decide (a = b)) ∧ L' = []) := by
  refine FnSpec.start C_ok Tryd.func19 rfl rfl Tryd.ntmps19 ?_
  repeat (first | refine OpsA.cons ?_ | refine OpsA.nil ?_ | refine OrdA.cons rfl ?_ | refine OrdA.nil ?_ | refine OrdW.cons rfl ?_ | refine OrdW.nil ?_ | refine OrdK.cons rfl ?_ | refine OrdK.nil ?_ | refine OrdN.one rfl ?_ | refine OrdN.nil ?_ | refine Run.textA C_ok (aopC_sound C_ok) ?_ | refine And.intro rfl ?_ | refine And.intro (Nat.le_of_ble_eq_true rfl) ?_ | refine And.intro (Int.natCast_nonneg _) ?_ | refine fun (_ : Nat) => ?_ | refine Ord.go ?_ | refine Run.go rfl ?_ | refine Cont.go rfl ?_ | refine OrdP.go ?_)
  refine ⟨fun h => ?_, fun h => ?_⟩
  · have h : ¬ (a.length : Int) = b.length := h
    repeat (first | refine OpsA.cons ?_ | refine OpsA.nil ?_ | refine OrdA.cons rfl ?_ | refine OrdA.nil ?_ | refine OrdW.cons rfl ?_ | refine OrdW.nil ?_ | refine OrdK.cons rfl ?_ | refine OrdK.nil ?_ | refine OrdN.one rfl ?_ | refine OrdN.nil ?_ | refine Run.textA C_ok (aopC_sound C_ok) ?_ | refine And.intro rfl ?_ | refine And.intro (Nat.le_of_ble_eq_true rfl) ?_ | refine And.intro (Int.natCast_nonneg _) ?_ | refine fun (_ : Nat) => ?_ | refine Ord.go ?_ | refine Run.go rfl ?_ | refine Cont.go rfl ?_ | refine OrdP.go ?_)
    exact ⟨_, [], FinOk.drop _ _, congrArg AV.bool (decide_eq_false fun e => h (by rw [e])).symm, rfl⟩
  have hl : a.length = b.length := by have h : ¬ ¬ (a.length : Int) = b.length := h; omega
  repeat (first | refine OpsA.cons ?_ | refine OpsA.nil ?_ | refine OrdA.cons rfl ?_ | refine OrdA.nil ?_ | refine OrdW.cons rfl ?_ | refine OrdW.nil ?_ | refine OrdK.cons rfl ?_ | refine OrdK.nil ?_ | refine OrdN.one rfl ?_ | refine OrdN.nil ?_ | refine Run.textA C_ok (aopC_sound C_ok) ?_ | refine And.intro rfl ?_ | refine And.intro (Nat.le_of_ble_eq_true rfl) ?_ | refine And.intro (Int.natCast_nonneg _) ?_ | refine fun (_ : Nat) => ?_ | refine Ord.go ?_ | refine Run.go rfl ?_ | refine Cont.go rfl ?_ | refine OrdP.go ?_)
  refine Run.loop (fun k env L => ∃ i : Nat, k = a.length - i ∧ i ≤ a.length ∧ (∀ j < i, a[j]? = b[j]?) ∧ env = [rdX a, rdX b, .junk, .junk, .junk, .int .i64 i, .junk, .junk, .junk, .junk, .junk, .junk, .junk, .junk, .junk, .junk, .junk, .junk, .junk, .junk, .junk, .junk, .junk, .junk, .junk, .junk] ∧ L = []) a.length [rdX a, rdX b, .junk, .junk, .junk, .int .i64 (0 : Nat), .junk, .junk, .junk, .junk, .junk, .junk, .junk, .junk, .junk, .junk, .junk, .junk, .junk, .junk, .junk, .junk, .junk, .junk, .junk, .junk] ?_ ⟨0, by omega, by omega, fun j hj => absurd hj (Nat.not_lt_zero j), rfl, rfl⟩ ?_
  · repeat (first | exact trivial | refine ⟨.inl rfl, ?_⟩ | refine ⟨.inr rfl, ?_⟩)
  rintro k env L ⟨i, rfl, hi, hP, rfl, rfl⟩
  repeat (first | refine OpsA.cons ?_ | refine OpsA.nil ?_ | refine OrdA.cons rfl ?_ | refine OrdA.nil ?_ | refine OrdW.cons rfl ?_ | refine OrdW.nil ?_ | refine OrdK.cons rfl ?_ | refine OrdK.nil ?_ | refine OrdN.one rfl ?_ | refine OrdN.nil ?_ | refine Run.textA C_ok (aopC_sound C_ok) ?_ | refine And.intro rfl ?_ | refine And.intro (Nat.le_of_ble_eq_true rfl) ?_ | refine And.intro (Int.natCast_nonneg _) ?_ | refine fun (_ : Nat) => ?_ | refine Ord.go ?_ | refine Run.go rfl ?_ | refine Cont.go rfl ?_ | refine OrdP.go ?_)
  refine ⟨fun h => ?_, fun h => ?_⟩
  · have h : (i : Int) < (a.length : Int) := h
    have hia : i < a.length := by omega
    obtain ⟨x, ex⟩ : ∃ x, a[i]? = some x := ⟨_, List.getElem?_eq_getElem hia⟩
    obtain ⟨y, ey⟩ : ∃ y, b[i]? = some y := ⟨_, List.getElem?_eq_getElem (by omega)⟩
    repeat (first | refine OpsA.cons ?_ | refine OpsA.nil ?_ | refine OrdA.cons rfl ?_ | refine OrdA.nil ?_ | refine OrdW.cons rfl ?_ | refine OrdW.nil ?_ | refine OrdK.cons rfl ?_ | refine OrdK.nil ?_ | refine OrdN.one rfl ?_ | refine OrdN.nil ?_ | refine Run.textA C_ok (aopC_sound C_ok) ?_ | refine And.intro rfl ?_ | refine And.intro (Nat.le_of_ble_eq_true rfl) ?_ | refine And.intro (Int.natCast_nonneg _) ?_ | refine fun (_ : Nat) => ?_ | refine Ord.go ?_ | refine Run.go rfl ?_ | refine Cont.go rfl ?_ | refine OrdP.go ?_)
    refine Run.drawnK C_ok (aopC_sound C_ok) [] [0, 1, 2, 3, 4, 5, 6, 7, 8] (by kernel_rfl) ?_
    repeat (first | refine OpsA.cons ?_ | refine OpsA.nil ?_ | refine OrdA.cons rfl ?_ | refine OrdA.nil ?_ | refine OrdW.cons rfl ?_ | refine OrdW.nil ?_ | refine OrdK.cons rfl ?_ | refine OrdK.nil ?_ | refine OrdN.one rfl ?_ | refine OrdN.nil ?_ | refine Run.textA C_ok (aopC_sound C_ok) ?_ | refine And.intro rfl ?_ | refine And.intro (Nat.le_of_ble_eq_true rfl) ?_ | refine And.intro (Int.natCast_nonneg _) ?_ | refine fun (_ : Nat) => ?_ | refine Ord.go ?_ | refine Run.go rfl ?_ | refine Cont.go rfl ?_ | refine OrdP.go ?_)
    refine ⟨h, encX x, map_at encX ex, ?_⟩
    repeat (first | refine OpsA.cons ?_ | refine OpsA.nil ?_ | refine OrdA.cons rfl ?_ | refine OrdA.nil ?_ | refine OrdW.cons rfl ?_ | refine OrdW.nil ?_ | refine OrdK.cons rfl ?_ | refine OrdK.nil ?_ | refine OrdN.one rfl ?_ | refine OrdN.nil ?_ | refine Run.textA C_ok (aopC_sound C_ok) ?_ | refine And.intro rfl ?_ | refine And.intro (Nat.le_of_ble_eq_true rfl) ?_ | refine And.intro (Int.natCast_nonneg _) ?_ | refine fun (_ : Nat) => ?_ | refine Ord.go ?_ | refine Run.go rfl ?_ | refine Cont.go rfl ?_ | refine OrdP.go ?_)
    refine ⟨show (i : Int) < (b.length : Int) by omega, encX y, map_at encX ey, ?_⟩
    repeat (first | refine OpsA.cons ?_ | refine OpsA.nil ?_ | refine OrdA.cons rfl ?_ | refine OrdA.nil ?_ | refine OrdW.cons rfl ?_ | refine OrdW.nil ?_ | refine OrdK.cons rfl ?_ | refine OrdK.nil ?_ | refine OrdN.one rfl ?_ | refine OrdN.nil ?_ | refine Run.textA C_ok (aopC_sound C_ok) ?_ | refine And.intro rfl ?_ | refine And.intro (Nat.le_of_ble_eq_true rfl) ?_ | refine And.intro (Int.natCast_nonneg _) ?_ | refine fun (_ : Nat) => ?_ | refine Ord.go ?_ | refine Run.go rfl ?_ | refine Cont.go rfl ?_ | refine OrdP.go ?_)
    refine ⟨fun hne => ?_, fun heq => ?_⟩
    · have hne : x ≠ y := fun e => hne ((fx_eq x y).2 e)
      repeat (first | refine OpsA.cons ?_ | refine OpsA.nil ?_ | refine OrdA.cons rfl ?_ | refine OrdA.nil ?_ | refine OrdW.cons rfl ?_ | refine OrdW.nil ?_ | refine OrdK.cons rfl ?_ | refine OrdK.nil ?_ | refine OrdN.one rfl ?_ | refine OrdN.nil ?_ | refine Run.textA C_ok (aopC_sound C_ok) ?_ | refine And.intro rfl ?_ | refine And.intro (Nat.le_of_ble_eq_true rfl) ?_ | refine And.intro (Int.natCast_nonneg _) ?_ | refine fun (_ : Nat) => ?_ | refine Ord.go ?_ | refine Run.go rfl ?_ | refine Cont.go rfl ?_ | refine OrdP.go ?_)
      exact ⟨_, [], FinOk.drop _ _, congrArg AV.bool (decide_eq_false fun e => hne (by rw [e] at ex; exact Option.some.inj (ex.symm.trans ey))).symm, rfl⟩
    · have heq : x = y := (fx_eq x y).1 (Classical.not_not.1 heq)
      subst heq
      repeat (first | refine OpsA.cons ?_ | refine OpsA.nil ?_ | refine OrdA.cons rfl ?_ | refine OrdA.nil ?_ | refine OrdW.cons rfl ?_ | refine OrdW.nil ?_ | refine OrdK.cons rfl ?_ | refine OrdK.nil ?_ | refine OrdN.one rfl ?_ | refine OrdN.nil ?_ | refine Run.textA C_ok (aopC_sound C_ok) ?_ | refine And.intro rfl ?_ | refine And.intro (Nat.le_of_ble_eq_true rfl) ?_ | refine And.intro (Int.natCast_nonneg _) ?_ | refine fun (_ : Nat) => ?_ | refine Ord.go ?_ | refine Run.go rfl ?_ | refine Cont.go rfl ?_ | refine OrdP.go ?_)
      refine fun r hr => ?_
      obtain rfl := add1 hr (by omega)
      repeat (first | refine OpsA.cons ?_ | refine OpsA.nil ?_ | refine OrdA.cons rfl ?_ | refine OrdA.nil ?_ | refine OrdW.cons rfl ?_ | refine OrdW.nil ?_ | refine OrdK.cons rfl ?_ | refine OrdK.nil ?_ | refine OrdN.one rfl ?_ | refine OrdN.nil ?_ | refine Run.textA C_ok (aopC_sound C_ok) ?_ | refine And.intro rfl ?_ | refine And.intro (Nat.le_of_ble_eq_true rfl) ?_ | refine And.intro (Int.natCast_nonneg _) ?_ | refine fun (_ : Nat) => ?_ | refine Ord.go ?_ | refine Run.go rfl ?_ | refine Cont.go rfl ?_ | refine OrdP.go ?_)
      refine Cont.lp ?_
      refine ⟨a.length - (i + 1), _, 99, by omega, ?_, ⟨i + 1, rfl, by omega, fun j hj => ?_, rfl, rfl⟩⟩
      · repeat (first | exact trivial | refine ⟨.inl rfl, ?_⟩ | refine ⟨.inr rfl, ?_⟩)
      · by_cases e : j = i
        · subst e; rw [ex, ey]
        · exact hP j (by omega)
  · have h : ¬ (i : Int) < (a.length : Int) := h
    repeat (first | refine OpsA.cons ?_ | refine OpsA.nil ?_ | refine OrdA.cons rfl ?_ | refine OrdA.nil ?_ | refine OrdW.cons rfl ?_ | refine OrdW.nil ?_ | refine OrdK.cons rfl ?_ | refine OrdK.nil ?_ | refine OrdN.one rfl ?_ | refine OrdN.nil ?_ | refine Run.textA C_ok (aopC_sound C_ok) ?_ | refine And.intro rfl ?_ | refine And.intro (Nat.le_of_ble_eq_true rfl) ?_ | refine And.intro (Int.natCast_nonneg _) ?_ | refine fun (_ : Nat) => ?_ | refine Ord.go ?_ | refine Run.go rfl ?_ | refine Cont.go rfl ?_ | refine OrdP.go ?_)
    exact ⟨_, [], FinOk.drop _ _, congrArg AV.bool (decide_eq_true (eq_of_upto hl fun j hj => hP j (by omega))).symm, rfl⟩
abbrev zeroX : Fu := ⟨eS, eS, 0, 0, 0, 0, 0⟩
set_option maxHeartbeats 4000000 in
theorem find_spec (l : List Fu) (p : ByteArray) (hl : l.length ≤ 1000) : FnSpec C 15 [rdX l, .str p] [] (fun r L' => r = .tuple [encX ((findF l p).getD zeroX), .bool (findF l p).isSome] ∧ L' = []) := by
  refine FnSpec.start C_ok Tryd.func15 rfl rfl Tryd.ntmps15 ?_
  repeat (first | refine OpsA.cons ?_ | refine OpsA.nil ?_ | refine OrdA.cons rfl ?_ | refine OrdA.nil ?_ | refine OrdW.cons rfl ?_ | refine OrdW.nil ?_ | refine OrdK.cons rfl ?_ | refine OrdK.nil ?_ | refine OrdN.one rfl ?_ | refine OrdN.nil ?_ | refine Run.textA C_ok (aopC_sound C_ok) ?_ | refine And.intro rfl ?_ | refine And.intro (Nat.le_of_ble_eq_true rfl) ?_ | refine And.intro (Int.natCast_nonneg _) ?_ | refine fun (_ : Nat) => ?_ | refine Ord.go ?_ | refine Run.go rfl ?_ | refine Cont.go rfl ?_ | refine OrdP.go ?_)
  rename_i gr
  refine Run.loop (fun k env L => ∃ i : Nat, k = l.length - i ∧ i ≤ l.length ∧ findF l p = findF (l.drop i) p ∧ env = [rdX l, .str p, .junk, .junk, .ptr 0 gr 0, .junk, .int .i64 i, .junk, .junk, .junk, .junk, .junk, .junk, .junk, .junk, .junk, .junk, .junk, .junk, .junk, .junk, .junk, .junk, .junk, .junk] ∧ L = [(gr, .cells tX [.str eS, .str eS, .int .i64 0, .int .i64 0, .int .i64 0, .int .i64 0, .int .i64 0])]) l.length [rdX l, .str p, .junk, .junk, .ptr 0 gr 0, .junk, .int .i64 (0 : Nat), .junk, .junk, .junk, .junk, .junk, .junk, .junk, .junk, .junk, .junk, .junk, .junk, .junk, .junk, .junk, .junk, .junk, .junk] ?_ ⟨0, by omega, by omega, by rw [List.drop_zero], rfl, rfl⟩ ?_
  · repeat (first | exact trivial | refine ⟨.inl rfl, ?_⟩ | refine ⟨.inr rfl, ?_⟩)
  rintro k env L ⟨i, rfl, hi, hP, rfl, rfl⟩
  repeat (first | refine OpsA.cons ?_ | refine OpsA.nil ?_ | refine OrdA.cons rfl ?_ | refine OrdA.nil ?_ | refine OrdW.cons rfl ?_ | refine OrdW.nil ?_ | refine OrdK.cons rfl ?_ | refine OrdK.nil ?_ | refine OrdN.one rfl ?_ | refine OrdN.nil ?_ | refine Run.textA C_ok (aopC_sound C_ok) ?_ | refine And.intro rfl ?_ | refine And.intro (Nat.le_of_ble_eq_true rfl) ?_ | refine And.intro (Int.natCast_nonneg _) ?_ | refine fun (_ : Nat) => ?_ | refine Ord.go ?_ | refine Run.go rfl ?_ | refine Cont.go rfl ?_ | refine OrdP.go ?_)
  refine ⟨fun h => ?_, fun h => ?_⟩
  · have h : (i : Int) < (l.length : Int) := h
    have hil : i < l.length := by omega
    obtain ⟨x, ex⟩ : ∃ x, l[i]? = some x := ⟨_, List.getElem?_eq_getElem hil⟩
    have ed : l.drop i = x :: l.drop (i + 1) := drop_at ex
    repeat (first | refine OpsA.cons ?_ | refine OpsA.nil ?_ | refine OrdA.cons rfl ?_ | refine OrdA.nil ?_ | refine OrdW.cons rfl ?_ | refine OrdW.nil ?_ | refine OrdK.cons rfl ?_ | refine OrdK.nil ?_ | refine OrdN.one rfl ?_ | refine OrdN.nil ?_ | refine Run.textA C_ok (aopC_sound C_ok) ?_ | refine And.intro rfl ?_ | refine And.intro (Nat.le_of_ble_eq_true rfl) ?_ | refine And.intro (Int.natCast_nonneg _) ?_ | refine fun (_ : Nat) => ?_ | refine Ord.go ?_ | refine Run.go rfl ?_ | refine Cont.go rfl ?_ | refine OrdP.go ?_)
    refine ⟨h, encX x, map_at encX ex, ?_⟩
    repeat (first | refine OpsA.cons ?_ | refine OpsA.nil ?_ | refine OrdA.cons rfl ?_ | refine OrdA.nil ?_ | refine OrdW.cons rfl ?_ | refine OrdW.nil ?_ | refine OrdK.cons rfl ?_ | refine OrdK.nil ?_ | refine OrdN.one rfl ?_ | refine OrdN.nil ?_ | refine Run.textA C_ok (aopC_sound C_ok) ?_ | refine And.intro rfl ?_ | refine And.intro (Nat.le_of_ble_eq_true rfl) ?_ | refine And.intro (Int.natCast_nonneg _) ?_ | refine fun (_ : Nat) => ?_ | refine Ord.go ?_ | refine Run.go rfl ?_ | refine Cont.go rfl ?_ | refine OrdP.go ?_)
    refine ⟨fun hp => ?_, fun hp => ?_⟩
    · have hp : x.p = p := hp
      have hf : findF l p = some x := by rw [hP, ed]; unfold findF; rw [List.find?_cons_of_pos]; simpa using hp
      repeat (first | refine OpsA.cons ?_ | refine OpsA.nil ?_ | refine OrdA.cons rfl ?_ | refine OrdA.nil ?_ | refine OrdW.cons rfl ?_ | refine OrdW.nil ?_ | refine OrdK.cons rfl ?_ | refine OrdK.nil ?_ | refine OrdN.one rfl ?_ | refine OrdN.nil ?_ | refine Run.textA C_ok (aopC_sound C_ok) ?_ | refine And.intro rfl ?_ | refine And.intro (Nat.le_of_ble_eq_true rfl) ?_ | refine And.intro (Int.natCast_nonneg _) ?_ | refine fun (_ : Nat) => ?_ | refine Ord.go ?_ | refine Run.go rfl ?_ | refine Cont.go rfl ?_ | refine OrdP.go ?_)
      refine ⟨h, encX x, map_at encX ex, ?_⟩
      repeat (first | refine OpsA.cons ?_ | refine OpsA.nil ?_ | refine OrdA.cons rfl ?_ | refine OrdA.nil ?_ | refine OrdW.cons rfl ?_ | refine OrdW.nil ?_ | refine OrdK.cons rfl ?_ | refine OrdK.nil ?_ | refine OrdN.one rfl ?_ | refine OrdN.nil ?_ | refine Run.textA C_ok (aopC_sound C_ok) ?_ | refine And.intro rfl ?_ | refine And.intro (Nat.le_of_ble_eq_true rfl) ?_ | refine And.intro (Int.natCast_nonneg _) ?_ | refine fun (_ : Nat) => ?_ | refine Ord.go ?_ | refine Run.go rfl ?_ | refine Cont.go rfl ?_ | refine OrdP.go ?_)
      exact ⟨_, [], FinOk.drop _ _, by rw [hf]; rfl, rfl⟩
    · have hp : ¬ x.p = p := hp
      have hf : findF l p = findF (l.drop (i + 1)) p := by rw [hP, ed]; unfold findF; rw [List.find?_cons_of_neg]; simpa using hp
      repeat (first | refine OpsA.cons ?_ | refine OpsA.nil ?_ | refine OrdA.cons rfl ?_ | refine OrdA.nil ?_ | refine OrdW.cons rfl ?_ | refine OrdW.nil ?_ | refine OrdK.cons rfl ?_ | refine OrdK.nil ?_ | refine OrdN.one rfl ?_ | refine OrdN.nil ?_ | refine Run.textA C_ok (aopC_sound C_ok) ?_ | refine And.intro rfl ?_ | refine And.intro (Nat.le_of_ble_eq_true rfl) ?_ | refine And.intro (Int.natCast_nonneg _) ?_ | refine fun (_ : Nat) => ?_ | refine Ord.go ?_ | refine Run.go rfl ?_ | refine Cont.go rfl ?_ | refine OrdP.go ?_)
      refine fun r hr => ?_
      obtain rfl := add1 hr (by omega)
      repeat (first | refine OpsA.cons ?_ | refine OpsA.nil ?_ | refine OrdA.cons rfl ?_ | refine OrdA.nil ?_ | refine OrdW.cons rfl ?_ | refine OrdW.nil ?_ | refine OrdK.cons rfl ?_ | refine OrdK.nil ?_ | refine OrdN.one rfl ?_ | refine OrdN.nil ?_ | refine Run.textA C_ok (aopC_sound C_ok) ?_ | refine And.intro rfl ?_ | refine And.intro (Nat.le_of_ble_eq_true rfl) ?_ | refine And.intro (Int.natCast_nonneg _) ?_ | refine fun (_ : Nat) => ?_ | refine Ord.go ?_ | refine Run.go rfl ?_ | refine Cont.go rfl ?_ | refine OrdP.go ?_)
      refine Cont.lp ?_
      refine ⟨l.length - (i + 1), _, 99, by omega, ?_, ⟨i + 1, rfl, by omega, hf, rfl, rfl⟩⟩
      · repeat (first | exact trivial | refine ⟨.inl rfl, ?_⟩ | refine ⟨.inr rfl, ?_⟩)
  · have h : ¬ (i : Int) < (l.length : Int) := h
    have hf : findF l p = none := by rw [hP, List.drop_of_length_le (by omega)]; rfl
    repeat (first | refine OpsA.cons ?_ | refine OpsA.nil ?_ | refine OrdA.cons rfl ?_ | refine OrdA.nil ?_ | refine OrdW.cons rfl ?_ | refine OrdW.nil ?_ | refine OrdK.cons rfl ?_ | refine OrdK.nil ?_ | refine OrdN.one rfl ?_ | refine OrdN.nil ?_ | refine Run.textA C_ok (aopC_sound C_ok) ?_ | refine And.intro rfl ?_ | refine And.intro (Nat.le_of_ble_eq_true rfl) ?_ | refine And.intro (Int.natCast_nonneg _) ?_ | refine fun (_ : Nat) => ?_ | refine Ord.go ?_ | refine Run.go rfl ?_ | refine Cont.go rfl ?_ | refine OrdP.go ?_)
    exact ⟨_, [], FinOk.drop _ _, by rw [hf]; rfl, rfl⟩
end Go.Proofs.YtiikjcdjgmlcgaaDoor.HBT
/- Counted makes below one place, plainly. -/
namespace Go.Proofs.YtiikjcdjgmlcgaaDoor.HBT
open Go Go.Proofs.YtiikjcdjgmlcgaaDoor.HB Go.RowKit
set_option maxRecDepth 8000

def qP : ByteArray := ⟨#[47, 113]⟩
def qN : ByteArray := ⟨#[113]⟩
def plainP : ByteArray := ⟨#[47, 113, 47, 112, 108, 97, 105, 110]⟩
def joinE (b : ByteArray) : Int := if isNameB b = true then 0 else 10
def joinP (b : ByteArray) : ByteArray := if isNameB b = true then placedB [qN, b] else eS
def goodB (b : ByteArray) : Prop := isNameB b = true ∧ b.size ≤ 11

theorem q_ok {b : ByteArray} (h : isNameB b = true) : okNames [qN, b] := ⟨by simp, fun x hx => by
  rcases List.mem_cons.1 hx with rfl | hx
  · kernel_rfl
  · simp only [List.mem_singleton] at hx; subst hx; exact h⟩
theorem join_facts {b : ByteArray} (h : isNameB b = true) : parseE (joinP b) = 0 ∧ namesOf (joinP b) = [qN, b] ∧ parentE (joinP b) = 0 ∧ parentB (joinP b) = qP ∧ longB (joinP b) = decide (11 < b.size) := by
  have e : joinP b = placedB [qN, b] := by unfold joinP; rw [if_pos h]
  obtain ⟨h1, h2⟩ := names_placed (q_ok h)
  obtain ⟨h3, h4⟩ := parent_placed (q_ok h)
  rw [e]
  refine ⟨h1, h2, by rw [h3, if_neg (List.cons_ne_nil _ _)], ?_, by unfold longB; rw [h2]; rfl⟩
  rw [h4 (List.cons_ne_nil _ _)]
  show placedB [qN] = qP
  kernel_rfl
theorem join_bad {b : ByteArray} (h : ¬ isNameB b = true) : joinP b = eS := by unfold joinP; rw [if_neg h]
theorem counted_size {b : ByteArray} (h : isNameB b = true) (k : Int) : 9 ≤ (countedB (joinP b) k).size := by
  have e : joinP b = placedB [qN, b] := by unfold joinP; rw [if_pos h]
  have hb : b.data.toList ≠ [] := name_ne_nil h
  have hb2 : 1 ≤ b.data.toList.length := by
    cases hc : b.data.toList with
    | nil => exact absurd hc hb
    | cons x t => simp
  have h5 : (digs k.toNat).length = 5 := rfl
  rw [size_list, e]
  unfold countedB
  rw [ByteArray.data_append, Array.toList_append, List.length_append, placed_flat (List.cons_ne_nil _ _)]
  simp only [List.map_cons, List.map_nil, List.flatten_cons, List.flatten_nil, List.length_append, List.length_cons, List.length_nil, h5]
  have : qN.data.toList.length = 1 := rfl
  omega
theorem counted_ne_q {b : ByteArray} (h : isNameB b = true) (k : Int) : countedB (joinP b) k ≠ qP := fun e => by
  have h1 := counted_size h k
  rw [e] at h1
  exact absurd h1 (by decide)
theorem counted_ne_plain {b : ByteArray} (h : isNameB b = true) (k : Int) : countedB (joinP b) k ≠ plainP := fun e => by
  have h1 := counted_size h k
  rw [e] at h1
  exact absurd h1 (by decide)
theorem dig_inj {a b : Nat} (ha : a < 10) (hb : b < 10) (h : UInt8.ofNat (48 + a) = UInt8.ofNat (48 + b)) : a = b := by
  have h := congrArg UInt8.toNat h
  rw [UInt8.toNat_ofNat', UInt8.toNat_ofNat'] at h
  omega
theorem counted_inj {p : ByteArray} {j k : Nat} (hj : j ≤ 99999) (hk : k ≤ 99999) (h : countedB p j = countedB p k) : j = k := by
  unfold countedB at h
  have h := congrArg (fun s : ByteArray => s.data.toList) h
  simp only [ByteArray.data_append, Array.toList_append, List.append_cancel_left_eq, Int.toNat_natCast] at h
  unfold digs at h
  simp only [List.map_cons, List.map_nil, List.cons.injEq, and_true] at h
  obtain ⟨h1, h2, h3, h4, h5⟩ := h
  have := dig_inj (Nat.mod_lt _ (by decide)) (Nat.mod_lt _ (by decide)) h1
  have := dig_inj (Nat.mod_lt _ (by decide)) (Nat.mod_lt _ (by decide)) h2
  have := dig_inj (Nat.mod_lt _ (by decide)) (Nat.mod_lt _ (by decide)) h3
  have := dig_inj (Nat.mod_lt _ (by decide)) (Nat.mod_lt _ (by decide)) h4
  have := dig_inj (Nat.mod_lt _ (by decide)) (Nat.mod_lt _ (by decide)) h5
  omega

theorem findF_cons (y : Fu) (l : List Fu) (p : ByteArray) : findF (y :: l) p = if y.p = p then some y else findF l p := by
  unfold findF
  by_cases h : y.p = p
  · rw [List.find?_cons_of_pos (by simpa using h), if_pos h]
  · rw [List.find?_cons_of_neg (by simpa using h), if_neg h]
theorem findF_upd_ne {a : Fu} {p : ByteArray} (h : p ≠ a.p) : ∀ l : List Fu, findF (upd l a) p = findF l p
  | [] => rfl
  | y :: l => by
    have e : upd (y :: l) a = (if y.p = a.p then a else y) :: upd l a := rfl
    rw [e, findF_cons, findF_cons, findF_upd_ne h l]
    by_cases hy : y.p = a.p
    · rw [if_pos hy, if_neg (fun e => h e.symm), if_neg (fun e => h (by rw [← e, hy]))]
    · rw [if_neg hy]
theorem findF_upd_eq {a x : Fu} : ∀ {l : List Fu}, findF l a.p = some x → findF (upd l a) a.p = some a
  | [], h => by cases h
  | y :: l, h => by
    have e : upd (y :: l) a = (if y.p = a.p then a else y) :: upd l a := rfl
    rw [findF_cons] at h
    rw [e, findF_cons]
    by_cases hy : y.p = a.p
    · rw [if_pos hy, if_pos rfl]
    · rw [if_neg hy] at h
      rw [if_neg hy, if_neg hy]
      exact findF_upd_eq h
theorem findF_ins_ne {x : Fu} {p : ByteArray} (h : p ≠ x.p) : ∀ l : List Fu, findF (ins x l) p = findF l p
  | [] => by
    have e : ins x [] = [x] := rfl
    rw [e, findF_cons, if_neg (fun e => h e.symm)]
  | y :: l => by
    have e : ins x (y :: l) = if orderB x.p y.p < 0 then x :: y :: l else y :: ins x l := rfl
    rw [e]
    split
    · rw [findF_cons, if_neg (fun e => h e.symm)]
    · rw [findF_cons, findF_cons, findF_ins_ne h l]
theorem findF_mem_some {l : List Fu} {x : Fu} (h : x ∈ l) : (findF l x.p).isSome = true := by
  cases e : findF l x.p with
  | none => exact absurd rfl (findF_none e x h)
  | some y => rfl
theorem findF_del_ne {q p : ByteArray} (h : p ≠ q) : ∀ l : List Fu, findF (del l q) p = findF l p
  | [] => rfl
  | y :: l => by
    unfold del
    by_cases hy : y.p = q
    · rw [List.filter_cons_of_neg (by simpa using hy), findF_cons, if_neg (fun e => h (by rw [← e, hy]))]
      exact findF_del_ne h l
    · rw [List.filter_cons_of_pos (by simpa using hy), findF_cons, findF_cons]
      have := findF_del_ne h l
      unfold del at this
      rw [this]
theorem findF_del_none {q p : ByteArray} {l : List Fu} (h : findF l p = none) : findF (del l q) p = none := by
  cases e : findF (del l q) p with
  | none => rfl
  | some x =>
    obtain ⟨h1, h2⟩ := findF_some e
    exact absurd h2 (findF_none h x (List.mem_filter.1 h1).1)

/-- A request of one op. -/
theorem playR_one (l : List Fu) (s st : Int) (o : Opp) (hs : 0 ≤ s ∧ s ≤ 2147483647) (ht : 1 ≤ st ∧ st ≤ 2147483647) :
    playR l s st [o] = match playF l s st o with
      | .error e => (l, ⟨st, e, 0, []⟩, [])
      | .ok (l', r, c) => (l', ⟨st, 0, 0, [r]⟩, c) := by
  unfold playR
  rw [if_neg (by simp), if_neg (by omega), if_neg (List.cons_ne_nil _ _)]
  unfold goF
  cases playF l s st o with
  | error e => rfl
  | ok x => obtain ⟨l', r, c⟩ := x; rfl

/-- What holds between the law's steps. -/
structure CI (b : ByteArray) (l : List Fu) (n : Nat) : Prop where
  inv : TInv l
  up : ∃ a, findF l qP = some a ∧ a.o = 0 ∧ a.k = n
  free : isNameB b = true → ∀ k : Nat, n ≤ k → k ≤ 99999 → findF l (countedB (joinP b) k) = none
  len : l.length + (if (findF l plainP).isSome = true then 0 else 1) ≤ 3 + n

def qX : Fu := ⟨qP, eS, 0, 1, 1, 0, 0⟩
theorem first_play : playR [rootF] 1 1 [⟨1, qP, eS, 0, 0⟩] = ([rootF, qX], ⟨1, 0, 0, [told qX]⟩, [⟨1, qP, eS, 0⟩]) := by kernel_rfl
theorem CI.first (b : ByteArray) : CI b [rootF, qX] 0 where
  inv := by
    have := playR_inv (s := 1) (st := 1) (ops := [⟨1, qP, eS, 0, 0⟩]) TInv.new
    rw [first_play] at this
    exact this
  up := ⟨qX, by kernel_rfl, rfl, rfl⟩
  free := fun h k _ _ => by
    rw [findF_cons, if_neg, findF_cons, if_neg]
    · rfl
    · exact fun e => counted_ne_q h k e.symm
    · intro e
      have := counted_size h k
      rw [← e] at this
      exact absurd this (by decide)
  len := by
    have : (findF [rootF, qX] plainP).isSome = false := by kernel_rfl
    rw [this]
    decide

theorem makeF_of {l : List Fu} {s st : Int} {o : Opp} {a : Fu} (h0 : 0 ≤ o.f ∧ o.f ≤ 3) (h1 : parentE o.p = 0) (h2 : isCnt o.f = true → longB o.p = false) (h3 : isBrf o.f = false) (h4 : o.d.size ≤ 64) (h5 : findF l (parentB o.p) = some a) (h6 : a.o = 0) :
    makeF l s st o = if isCnt o.f = true ∧ 99999 < a.k then .error 46 else if (findF l (madeX s st a o).p).isSome then .error 41 else if 64 ≤ l.length then .error 46
      else .ok (upd (ins (madeX s st a o) l) (madeA a o), told (madeX s st a o), [⟨1, (madeX s st a o).p, o.d, 0⟩]) := by
  unfold makeF
  rw [if_neg (by omega), if_neg (by omega), if_neg, if_neg (fun e => by rw [h3] at e; exact absurd e.1 (by decide)), if_neg (by omega), h5]
  · simp only []
    rw [if_neg (fun e => e h6)]
  · rintro (e | ⟨e1, e2⟩)
    · exact e h1
    · rw [h2 e1] at e2; cases e2
/-- A counted make that may be. -/
theorem CI.make {b : ByteArray} {l : List Fu} {n : Nat} (h : CI b l n) (hn : n ≤ 60) (hb : goodB b) :
    ∃ l' r cs, playR l 1 2 [⟨1, joinP b, eS, 0, 2⟩] = (l', ⟨2, 0, 0, [r]⟩, cs) ∧ r.p = countedB (joinP b) n ∧ CI b l' (n + 1) := by
  obtain ⟨f1, f2, f3, f4, f5⟩ := join_facts hb.1
  obtain ⟨a, ha, ho, hk⟩ := h.up
  have hX : (madeX 1 2 a ⟨1, joinP b, eS, 0, 2⟩).p = countedB (joinP b) n := by
    show countedB (joinP b) a.k = _
    rw [hk]
  have hap : a.p = qP := (findF_some ha).2
  have hA : (madeA a ⟨1, joinP b, eS, 0, 2⟩) = { a with k := a.k + 1 } := rfl
  have hfr := h.free hb.1 n (Nat.le_refl _) (by omega)
  have hlen : l.length ≤ 63 := by have := h.len; split at this <;> omega
  have hm : makeF l 1 2 ⟨1, joinP b, eS, 0, 2⟩ = .ok (upd (ins (madeX 1 2 a ⟨1, joinP b, eS, 0, 2⟩) l) { a with k := a.k + 1 }, told (madeX 1 2 a ⟨1, joinP b, eS, 0, 2⟩), [⟨1, (madeX 1 2 a ⟨1, joinP b, eS, 0, 2⟩).p, eS, 0⟩]) := by
    rw [makeF_of (a := a) (by show (0 : Int) ≤ 2 ∧ (2 : Int) ≤ 3; omega) f3 (fun _ => by show longB (joinP b) = false; rw [f5]; exact decide_eq_false (by have := hb.2; omega)) (by show isBrf 2 = false; decide) (by show eS.size ≤ 64; decide) (by show findF l (parentB (joinP b)) = _; rw [f4]; exact ha) ho]
    rw [if_neg (by rw [hk]; omega), hX, hfr, if_neg (by decide), if_neg (by omega)]
    rfl
  have hp : playF l 1 2 ⟨1, joinP b, eS, 0, 2⟩ = makeF l 1 2 ⟨1, joinP b, eS, 0, 2⟩ := by
    unfold playF
    rw [if_neg (by show ¬ ((1 : Int) < 1 ∨ (7 : Int) < 1); omega), if_pos rfl]
  generalize madeX 1 2 a ⟨1, joinP b, eS, 0, 2⟩ = X at hX hm
  have hne : ∀ y ∈ l, y.p ≠ X.p := by rw [hX]; exact findF_none hfr
  refine ⟨_, _, _, by rw [playR_one _ _ _ _ (by omega) (by omega), hp, hm], hX, ?_⟩
  have hq : qP ≠ X.p := by rw [hX]; exact fun e => counted_ne_q hb.1 n e.symm
  have hpl : plainP ≠ X.p := by rw [hX]; exact fun e => counted_ne_plain hb.1 n e.symm
  exact {
    inv := by
      rw [← hp] at hm
      exact playF_inv h.inv (by omega) (by omega) hm
    up := by
      refine ⟨{ a with k := a.k + 1 }, ?_, ho, by show a.k + 1 = _; rw [hk]; rfl⟩
      have : findF (ins X l) ({ a with k := a.k + 1 } : Fu).p = some a := by
        show findF (ins X l) a.p = some a
        rw [hap, findF_ins_ne hq, ha]
      have h2 := findF_upd_eq this
      rw [← hap]
      exact h2
    free := fun hb1 k h1 h2 => by
      rw [findF_upd_ne, findF_ins_ne]
      · exact h.free hb1 k (by omega) h2
      · rw [hX]
        intro e
        have := counted_inj h2 (by omega) e
        omega
      · show _ ≠ a.p
        rw [hap]
        exact counted_ne_q hb1 k
    len := by
      rw [upd_len, (ins_perm X l).length_eq, List.length_cons, findF_upd_ne, findF_ins_ne hpl]
      · have := h.len; omega
      · show _ ≠ a.p
        rw [hap]; decide }
/-- A counted make that may not be. -/
theorem make_bad {b : ByteArray} (hb : ¬ goodB b) (l : List Fu) : playF l 1 2 ⟨1, joinP b, eS, 0, 2⟩ = .error 10 := by
  unfold playF
  rw [if_neg (by show ¬ ((1 : Int) < 1 ∨ (7 : Int) < 1); omega), if_pos rfl]
  unfold makeF
  rw [if_neg (by show ¬ ((2 : Int) < 0 ∨ (3 : Int) < 2); omega)]
  by_cases h : isNameB b = true
  · obtain ⟨f1, f2, f3, f4, f5⟩ := join_facts h
    rw [if_neg (by show ¬ parentE (joinP b) = 47; omega), if_pos]
    refine .inr ⟨rfl, ?_⟩
    show longB (joinP b) = true
    rw [f5]
    refine decide_eq_true (Classical.byContradiction fun hn => hb ⟨h, by omega⟩)
  · rw [join_bad h]
    have : parentE eS = 10 := by kernel_rfl
    rw [if_neg (by show ¬ parentE eS = 47; omega), if_pos (.inl (by show parentE eS ≠ 0; omega))]
theorem joined_bad {b : ByteArray} (hb : ¬ goodB b) (l : List Fu) : playR l 1 2 [⟨1, joinP b, eS, 0, 2⟩] = (l, ⟨2, 10, 0, []⟩, []) := by
  rw [playR_one _ _ _ _ (by omega) (by omega), make_bad hb]
theorem CI.error {b : ByteArray} {l : List Fu} {n : Nat} (h : CI b l n) {s st : Int} {o : Opp} (hs : 0 ≤ s ∧ s ≤ 2147483647) (ht : 1 ≤ st ∧ st ≤ 2147483647) {e : Int} (he : playF l s st o = .error e) : CI b (playR l s st [o]).1 n := by
  rw [playR_one _ _ _ _ hs ht, he]
  exact h
theorem CI.plain {b : ByteArray} {l : List Fu} {n : Nat} (h : CI b l n) : CI b (playR l 1 2 [⟨1, plainP, eS, 0, 0⟩]).1 n := by
  have hI : TInv (playR l 1 2 [⟨1, plainP, eS, 0, 0⟩]).1 := playR_inv h.inv
  obtain ⟨a, ha, ho, hk⟩ := h.up
  have hap : a.p = qP := (findF_some ha).2
  have hp : playF l 1 2 ⟨1, plainP, eS, 0, 0⟩ = makeF l 1 2 ⟨1, plainP, eS, 0, 0⟩ := by
    unfold playF
    rw [if_neg (by show ¬ ((1 : Int) < 1 ∨ (7 : Int) < 1); omega), if_pos rfl]
  have e1 : parentE plainP = 0 := by kernel_rfl
  have e2 : parentB plainP = qP := by kernel_rfl
  have hm := makeF_of (l := l) (s := 1) (st := 2) (o := ⟨1, plainP, eS, 0, 0⟩) (a := a) (by show (0 : Int) ≤ 0 ∧ (0 : Int) ≤ 3; omega) e1 (fun e => by cases e) (by decide) (by decide) (by show findF l (parentB plainP) = _; rw [e2]; exact ha) ho
  rw [if_neg (fun e => by cases e.1)] at hm
  have hX : (madeX 1 2 a ⟨1, plainP, eS, 0, 0⟩).p = plainP := rfl
  have hA : (madeA a ⟨1, plainP, eS, 0, 0⟩) = a := rfl
  rw [hA] at hm
  generalize madeX 1 2 a ⟨1, plainP, eS, 0, 0⟩ = X at hX hm
  by_cases hs : (findF l X.p).isSome = true
  · rw [if_pos hs, ← hp] at hm
    exact h.error (by omega) (by omega) hm
  rw [if_neg hs] at hm
  by_cases h64 : 64 ≤ l.length
  · rw [if_pos h64, ← hp] at hm
    exact h.error (by omega) (by omega) hm
  rw [if_neg h64, ← hp] at hm
  rw [playR_one _ _ _ _ (by omega) (by omega), hm] at hI ⊢
  have hq : qP ≠ X.p := by rw [hX]; decide
  exact {
    inv := hI
    up := by
      refine ⟨a, ?_, ho, hk⟩
      have : findF (ins X l) a.p = some a := by rw [hap, findF_ins_ne hq, ha]
      have := findF_upd_eq this
      rw [hap] at this
      exact this
    free := fun hb1 k h1 h2 => by
      show findF (upd (ins X l) a) _ = none
      rw [findF_upd_ne, findF_ins_ne]
      · exact h.free hb1 k h1 h2
      · rw [hX]; exact counted_ne_plain hb1 k
      · rw [hap]; exact counted_ne_q hb1 k
    len := by
      show (upd (ins X l) a).length + _ ≤ _
      have hpl : plainP ≠ a.p := by rw [hap]; decide
      have hin : (findF (ins X l) plainP).isSome = true := by
        rw [← hX]
        exact findF_mem_some ((ins_perm X l).mem_iff.2 (.head _))
      rw [upd_len, (ins_perm X l).length_eq, List.length_cons]
      show _ + (if (findF (upd (ins X l) a) plainP).isSome = true then 0 else 1) ≤ _
      rw [findF_upd_ne hpl, if_pos hin]
      have := h.len
      rw [← hX, if_neg hs] at this
      omega }
theorem CI.drop {b : ByteArray} {l : List Fu} {n : Nat} (h : CI b l n) {last : ByteArray} (hl : last = eS ∨ (isNameB b = true ∧ ∃ k : Int, last = countedB (joinP b) k)) : CI b (playR l 1 2 [⟨3, last, eS, -1, 0⟩]).1 n := by
  have hI : TInv (playR l 1 2 [⟨3, last, eS, -1, 0⟩]).1 := playR_inv h.inv
  have hp := play_3 l 1 2 last eS (-1) 0
  by_cases h1 : parseE last ≠ 0
  · rw [if_pos h1] at hp
    exact h.error (by omega) (by omega) hp
  rw [if_neg h1] at hp
  obtain ⟨hb, k, hk⟩ := hl.resolve_left fun e => h1 (by rw [e]; have : parseE eS = 10 := by kernel_rfl
                                                        omega)
  have hpl : plainP ≠ last := by rw [hk]; exact fun e => counted_ne_plain hb k e.symm
  have hq : qP ≠ last := by rw [hk]; exact fun e => counted_ne_q hb k e.symm
  by_cases h2 : last = slash
  · rw [if_pos h2] at hp
    exact h.error (by omega) (by omega) hp
  rw [if_neg h2] at hp
  cases hf : findF l last with
  | none =>
    rw [hf] at hp
    exact h.error (by omega) (by omega) hp
  | some x =>
    have hx : x.p = last := (findF_some hf).2
    rw [hf] at hp
    simp only [] at hp
    rw [if_neg (fun e => e.1 rfl)] at hp
    by_cases h3 : kidsF l x.p ≠ []
    · rw [if_pos h3] at hp
      exact h.error (by omega) (by omega) hp
    rw [if_neg h3] at hp
    rw [playR_one _ _ _ _ (by omega) (by omega), hp] at hI ⊢
    rw [hx] at hI ⊢
    obtain ⟨a, ha, ho, hk⟩ := h.up
    exact {
      inv := hI
      up := ⟨a, by show findF (del l last) qP = _; rw [findF_del_ne hq]; exact ha, ho, hk⟩
      free := fun hb1 k h1 h2 => findF_del_none (h.free hb1 k h1 h2)
      len := by
        show (del l last).length + (if (findF (del l last) plainP).isSome = true then 0 else 1) ≤ _
        rw [findF_del_ne hpl]
        have h1 := h.len
        have h2 : (del l last).length ≤ l.length := List.length_filter_le _ _
        omega }
/-- A counted make and a drop of the root: refused. -/
theorem pair_refused (l : List Fu) (p : ByteArray) : ∃ (e : Int) (i : Nat), e ≠ 0 ∧ playR l 1 2 [⟨1, p, eS, 0, 2⟩, ⟨3, slash, eS, 0, 0⟩] = (l, ⟨2, e, i, []⟩, []) := by
  unfold playR
  rw [if_neg (by simp), if_neg (by decide), if_neg (List.cons_ne_nil _ _)]
  unfold goF
  cases hp : playF l 1 2 ⟨1, p, eS, 0, 2⟩ with
  | error e => exact ⟨e, 0, play_err hp, rfl⟩
  | ok x =>
    obtain ⟨l', r, c⟩ := x
    refine ⟨47, 1, by decide, ?_⟩
    have h3 := play_3 l' 1 2 slash eS 0 0
    rw [if_neg (fun e => e parse_slash), if_pos rfl] at h3
    simp only []
    unfold goF
    rw [h3]
end Go.Proofs.YtiikjcdjgmlcgaaDoor.HBT
/- The law TreeCounted, walked. -/
namespace Go.Proofs.YtiikjcdjgmlcgaaDoor.HBT
open Go Go.Proofs.YtiikjcdjgmlcgaaDoor.HB Go.RowKit
set_option maxRecDepth 8000

set_option maxHeartbeats 2000000 in
theorem join_spec2 (b : ByteArray) : FnSpec C 20 [.str qP, .ro 1 [.str b] 1] [] (fun r L' => r = .tuple [.str (joinP b), .int .i64 (joinE b)] ∧ L' = []) := by
  refine FnSpec.start C_ok Tryd.func20 rfl rfl Tryd.ntmps20 ?_
  repeat (first | refine OpsA.cons ?_ | refine OpsA.nil ?_ | refine OrdA.cons rfl ?_ | refine OrdA.nil ?_ | refine OrdW.cons rfl ?_ | refine OrdW.nil ?_ | refine OrdK.cons rfl ?_ | refine OrdK.nil ?_ | refine OrdN.one rfl ?_ | refine OrdN.nil ?_ | refine Run.textA C_ok (aopC_sound C_ok) ?_ | refine And.intro rfl ?_ | refine And.intro (Nat.le_of_ble_eq_true rfl) ?_ | refine And.intro (Int.natCast_nonneg _) ?_ | refine fun (_ : Nat) => ?_ | refine Ord.go ?_ | refine Run.go rfl ?_ | refine Cont.go rfl ?_ | refine OrdP.go ?_)
  refine ACallT.ok (ACall.pure _ (parse_spec qP) ?_)
  have e0 : parseE qP = 0 := by kernel_rfl
  have en : namesOf qP = [qN] := by kernel_rfl
  rintro r L' (⟨h, rfl, rfl⟩ | ⟨h, hn, rfl, rfl⟩ | ⟨h, hn, g, rfl, rfl⟩)
  · exact absurd e0 h
  · rw [en] at hn; cases hn
  rw [en]
  refine ⟨_, Sub.refl _, ?_⟩
  repeat (first | refine OpsA.cons ?_ | refine OpsA.nil ?_ | refine OrdA.cons rfl ?_ | refine OrdA.nil ?_ | refine OrdW.cons rfl ?_ | refine OrdW.nil ?_ | refine OrdK.cons rfl ?_ | refine OrdK.nil ?_ | refine OrdN.one rfl ?_ | refine OrdN.nil ?_ | refine Run.textA C_ok (aopC_sound C_ok) ?_ | refine And.intro rfl ?_ | refine And.intro (Nat.le_of_ble_eq_true rfl) ?_ | refine And.intro (Int.natCast_nonneg _) ?_ | refine fun (_ : Nat) => ?_ | refine Ord.go ?_ | refine Run.go rfl ?_ | refine Cont.go rfl ?_ | refine OrdP.go ?_)
  refine ⟨fun h => absurd rfl h, fun _ => ?_⟩
  repeat (first | refine OpsA.cons ?_ | refine OpsA.nil ?_ | refine OrdA.cons rfl ?_ | refine OrdA.nil ?_ | refine OrdW.cons rfl ?_ | refine OrdW.nil ?_ | refine OrdK.cons rfl ?_ | refine OrdK.nil ?_ | refine OrdN.one rfl ?_ | refine OrdN.nil ?_ | refine Run.textA C_ok (aopC_sound C_ok) ?_ | refine And.intro rfl ?_ | refine And.intro (Nat.le_of_ble_eq_true rfl) ?_ | refine And.intro (Int.natCast_nonneg _) ?_ | refine fun (_ : Nat) => ?_ | refine Ord.go ?_ | refine Run.go rfl ?_ | refine Cont.go rfl ?_ | refine OrdP.go ?_)
  refine Run.loopW (fun k env L => ∃ (j : Nat) (ls : List ByteArray) (g Cp : Nat), k = 2 - j ∧ ((j = 0 ∧ ls = [qN]) ∨ (j = 1 ∧ ls = [qN, b] ∧ isNameB b = true)) ∧ env = [.str qP, .ro 1 [.str b] 1, .junk, .junk, .junk, .junk, .sl 0 g Cp ls.length, .junk, .junk, .junk, .junk, .junk, .junk, .junk, .junk, .junk, .junk, .junk, .ro 1 [.str b] 1, .int .i64 (1 : Nat), .int .i64 j, .junk, .junk, .junk, .junk, .junk, .junk, .junk, .junk, .junk, .junk, .junk, .junk, .junk, .junk, .junk, .junk] ∧ L = [(g, .row 9 1 Cp (ls.map .str))]) 2
    [.str qP, .ro 1 [.str b] 1, .junk, .junk, .junk, .junk, .sl 0 g 1 1, .junk, .junk, .junk, .junk, .junk, .junk, .junk, .junk, .junk, .junk, .junk, .ro 1 [.str b] 1, .int .i64 (1 : Nat), .int .i64 (0 : Nat), .junk, .junk, .junk, .junk, .junk, .junk, .junk, .junk, .junk, .junk, .junk, .junk, .junk, .junk, .junk, .junk] [(g, .row 9 1 1 [.str qN])] (Weak.sel ?_ [0] (by decide) ?_) ⟨0, [qN], g, 1, by omega, .inl ⟨rfl, rfl⟩, rfl, rfl⟩ ?_
  · repeat (first | exact trivial | refine And.intro (Sub.junk _) ?_ | refine And.intro (Sub.refl _) ?_ | refine And.intro (Sub.sl _ _ _ _ _) ?_ | refine And.intro (Sub.ptr _ _ _ _) ?_)
  · repeat (first | exact trivial | refine And.intro rfl ?_ | refine And.intro (SubO.refl _) ?_ | refine And.intro trivial ?_ | refine And.intro (SubO.cells (by repeat (first | exact trivial | refine And.intro (Sub.refl _) ?_ | refine And.intro (Sub.sl _ _ _ _ _) ?_ | refine And.intro (Sub.ptr _ _ _ _) ?_))) ?_)
  rintro k env L ⟨j, ls, g, Cp, rfl, hj, rfl, rfl⟩
  rcases hj with ⟨rfl, rfl⟩ | ⟨rfl, rfl, hb⟩
  · repeat (first | refine OpsA.cons ?_ | refine OpsA.nil ?_ | refine OrdA.cons rfl ?_ | refine OrdA.nil ?_ | refine OrdW.cons rfl ?_ | refine OrdW.nil ?_ | refine OrdK.cons rfl ?_ | refine OrdK.nil ?_ | refine OrdN.one rfl ?_ | refine OrdN.nil ?_ | refine Run.textA C_ok (aopC_sound C_ok) ?_ | refine And.intro rfl ?_ | refine And.intro (Nat.le_of_ble_eq_true rfl) ?_ | refine And.intro (Int.natCast_nonneg _) ?_ | refine fun (_ : Nat) => ?_ | refine Ord.go ?_ | refine Run.go rfl ?_ | refine Cont.go rfl ?_ | refine OrdP.go ?_)
    refine ⟨fun h => ?_, fun h => absurd (show ((0 : Nat) : Int) < ((1 : Nat) : Int) by decide) h⟩
    repeat (first | refine OpsA.cons ?_ | refine OpsA.nil ?_ | refine OrdA.cons rfl ?_ | refine OrdA.nil ?_ | refine OrdW.cons rfl ?_ | refine OrdW.nil ?_ | refine OrdK.cons rfl ?_ | refine OrdK.nil ?_ | refine OrdN.one rfl ?_ | refine OrdN.nil ?_ | refine Run.textA C_ok (aopC_sound C_ok) ?_ | refine And.intro rfl ?_ | refine And.intro (Nat.le_of_ble_eq_true rfl) ?_ | refine And.intro (Int.natCast_nonneg _) ?_ | refine fun (_ : Nat) => ?_ | refine Ord.go ?_ | refine Run.go rfl ?_ | refine Cont.go rfl ?_ | refine OrdP.go ?_)
    refine ⟨.str b, rfl, ?_⟩
    repeat (first | refine OpsA.cons ?_ | refine OpsA.nil ?_ | refine OrdA.cons rfl ?_ | refine OrdA.nil ?_ | refine OrdW.cons rfl ?_ | refine OrdW.nil ?_ | refine OrdK.cons rfl ?_ | refine OrdK.nil ?_ | refine OrdN.one rfl ?_ | refine OrdN.nil ?_ | refine Run.textA C_ok (aopC_sound C_ok) ?_ | refine And.intro rfl ?_ | refine And.intro (Nat.le_of_ble_eq_true rfl) ?_ | refine And.intro (Int.natCast_nonneg _) ?_ | refine fun (_ : Nat) => ?_ | refine Ord.go ?_ | refine Run.go rfl ?_ | refine Cont.go rfl ?_ | refine OrdP.go ?_)
    refine ACallT.ok (ACall.ret (isName_spec b) ?_)
    cases hb : isNameB b with
    | false =>
      repeat (first | refine OpsA.cons ?_ | refine OpsA.nil ?_ | refine OrdA.cons rfl ?_ | refine OrdA.nil ?_ | refine OrdW.cons rfl ?_ | refine OrdW.nil ?_ | refine OrdK.cons rfl ?_ | refine OrdK.nil ?_ | refine OrdN.one rfl ?_ | refine OrdN.nil ?_ | refine Run.textA C_ok (aopC_sound C_ok) ?_ | refine And.intro rfl ?_ | refine And.intro (Nat.le_of_ble_eq_true rfl) ?_ | refine And.intro (Int.natCast_nonneg _) ?_ | refine fun (_ : Nat) => ?_ | refine Ord.go ?_ | refine Run.go rfl ?_ | refine Cont.go rfl ?_ | refine OrdP.go ?_)
      exact ⟨_, [], FinOk.drop _ _, by unfold joinP joinE; rw [hb]; rfl, rfl⟩
    | true =>
      repeat (first | refine OpsA.cons ?_ | refine OpsA.nil ?_ | refine OrdA.cons rfl ?_ | refine OrdA.nil ?_ | refine OrdW.cons rfl ?_ | refine OrdW.nil ?_ | refine OrdK.cons rfl ?_ | refine OrdK.nil ?_ | refine OrdN.one rfl ?_ | refine OrdN.nil ?_ | refine Run.textA C_ok (aopC_sound C_ok) ?_ | refine And.intro rfl ?_ | refine And.intro (Nat.le_of_ble_eq_true rfl) ?_ | refine And.intro (Int.natCast_nonneg _) ?_ | refine fun (_ : Nat) => ?_ | refine Ord.go ?_ | refine Run.go rfl ?_ | refine Cont.go rfl ?_ | refine OrdP.go ?_)
      refine ⟨fun h => absurd h (by decide), fun _ => ?_⟩
      repeat (first | refine OpsA.cons ?_ | refine OpsA.nil ?_ | refine OrdA.cons rfl ?_ | refine OrdA.nil ?_ | refine OrdW.cons rfl ?_ | refine OrdW.nil ?_ | refine OrdK.cons rfl ?_ | refine OrdK.nil ?_ | refine OrdN.one rfl ?_ | refine OrdN.nil ?_ | refine Run.textA C_ok (aopC_sound C_ok) ?_ | refine And.intro rfl ?_ | refine And.intro (Nat.le_of_ble_eq_true rfl) ?_ | refine And.intro (Int.natCast_nonneg _) ?_ | refine fun (_ : Nat) => ?_ | refine Ord.go ?_ | refine Run.go rfl ?_ | refine Cont.go rfl ?_ | refine OrdP.go ?_)
      rename_i g' Cp'
      refine fun r hr => ?_
      obtain rfl := add1 hr (by omega)
      repeat (first | refine OpsA.cons ?_ | refine OpsA.nil ?_ | refine OrdA.cons rfl ?_ | refine OrdA.nil ?_ | refine OrdW.cons rfl ?_ | refine OrdW.nil ?_ | refine OrdK.cons rfl ?_ | refine OrdK.nil ?_ | refine OrdN.one rfl ?_ | refine OrdN.nil ?_ | refine Run.textA C_ok (aopC_sound C_ok) ?_ | refine And.intro rfl ?_ | refine And.intro (Nat.le_of_ble_eq_true rfl) ?_ | refine And.intro (Int.natCast_nonneg _) ?_ | refine fun (_ : Nat) => ?_ | refine Ord.go ?_ | refine Run.go rfl ?_ | refine Cont.go rfl ?_ | refine OrdP.go ?_)
      refine Cont.lpW ?_
      refine ⟨1, _, _, by omega, Weak.sel ?_ [0] (by decide) ?_, ⟨1, [qN, b], g', Cp', rfl, .inr ⟨rfl, rfl, rfl⟩, rfl, rfl⟩⟩
      · repeat (first | exact trivial | refine And.intro (Sub.junk _) ?_ | refine And.intro (Sub.refl _) ?_ | refine And.intro (Sub.sl _ _ _ _ _) ?_ | refine And.intro (Sub.ptr _ _ _ _) ?_)
      · repeat (first | exact trivial | refine And.intro rfl ?_ | refine And.intro (SubO.refl _) ?_ | refine And.intro trivial ?_ | refine And.intro (SubO.cells (by repeat (first | exact trivial | refine And.intro (Sub.refl _) ?_ | refine And.intro (Sub.sl _ _ _ _ _) ?_ | refine And.intro (Sub.ptr _ _ _ _) ?_))) ?_)
  · repeat (first | refine OpsA.cons ?_ | refine OpsA.nil ?_ | refine OrdA.cons rfl ?_ | refine OrdA.nil ?_ | refine OrdW.cons rfl ?_ | refine OrdW.nil ?_ | refine OrdK.cons rfl ?_ | refine OrdK.nil ?_ | refine OrdN.one rfl ?_ | refine OrdN.nil ?_ | refine Run.textA C_ok (aopC_sound C_ok) ?_ | refine And.intro rfl ?_ | refine And.intro (Nat.le_of_ble_eq_true rfl) ?_ | refine And.intro (Int.natCast_nonneg _) ?_ | refine fun (_ : Nat) => ?_ | refine Ord.go ?_ | refine Run.go rfl ?_ | refine Cont.go rfl ?_ | refine OrdP.go ?_)
    refine ⟨fun h => absurd h (by decide), fun _ => ?_⟩
    repeat (first | refine OpsA.cons ?_ | refine OpsA.nil ?_ | refine OrdA.cons rfl ?_ | refine OrdA.nil ?_ | refine OrdW.cons rfl ?_ | refine OrdW.nil ?_ | refine OrdK.cons rfl ?_ | refine OrdK.nil ?_ | refine OrdN.one rfl ?_ | refine OrdN.nil ?_ | refine Run.textA C_ok (aopC_sound C_ok) ?_ | refine And.intro rfl ?_ | refine And.intro (Nat.le_of_ble_eq_true rfl) ?_ | refine And.intro (Int.natCast_nonneg _) ?_ | refine fun (_ : Nat) => ?_ | refine Ord.go ?_ | refine Run.go rfl ?_ | refine Cont.go rfl ?_ | refine OrdP.go ?_)
    have hok := q_ok hb
    have hps := placed_spec g Cp [qN, b] 2 (by simp) (by simp) (by have := join_names hok.1 hok.2 2; omega)
    refine ACallT.ok (ACall.all _ hps ?_)
    rintro r L' ⟨rfl, rfl⟩
    repeat (first | refine OpsA.cons ?_ | refine OpsA.nil ?_ | refine OrdA.cons rfl ?_ | refine OrdA.nil ?_ | refine OrdW.cons rfl ?_ | refine OrdW.nil ?_ | refine OrdK.cons rfl ?_ | refine OrdK.nil ?_ | refine OrdN.one rfl ?_ | refine OrdN.nil ?_ | refine Run.textA C_ok (aopC_sound C_ok) ?_ | refine And.intro rfl ?_ | refine And.intro (Nat.le_of_ble_eq_true rfl) ?_ | refine And.intro (Int.natCast_nonneg _) ?_ | refine fun (_ : Nat) => ?_ | refine Ord.go ?_ | refine Run.go rfl ?_ | refine Cont.go rfl ?_ | refine OrdP.go ?_)
    exact ⟨_, [], FinOk.drop _ _, by unfold joinP joinE; rw [if_pos hb, if_pos hb]; rfl, rfl⟩

theorem joinE_good {b : ByteArray} (h : goodB b) : joinE b = 0 := by unfold joinE; rw [if_pos h.1]
theorem countedE_good {b : ByteArray} (h : goodB b) {k : Nat} (hk : k ≤ 99999) : countedE (joinP b) k = 0 := by
  obtain ⟨f1, f2, _, _, f5⟩ := join_facts h.1
  unfold countedE
  rw [if_neg (fun e => e f1), f2, if_neg (List.cons_ne_nil _ _), f5, if_neg (by have := h.2; simp; omega), if_neg (by omega)]
theorem countedE_bad {b : ByteArray} (h : ¬ goodB b) (hj : joinE b = 0) (k : Int) : countedE (joinP b) k ≠ 0 := by
  have hb : isNameB b = true := by
    unfold joinE at hj
    cases e : isNameB b with
    | true => rfl
    | false => rw [e] at hj; cases hj
  obtain ⟨f1, f2, _, _, f5⟩ := join_facts hb
  unfold countedE
  rw [if_neg (fun e => e f1), f2, if_neg (List.cons_ne_nil _ _), f5, if_pos (decide_eq_true (Classical.byContradiction fun hn => h ⟨hb, by omega⟩))]
  decide
abbrev rdN (ks : List Int) (n : Nat) : AV := .ro 1 (ks.map (AV.int .i64)) n
set_option maxHeartbeats 2000000 in
theorem lawCounted_spec (b : ByteArray) (ks : List Int) (n : Nat) (hn : n ≤ ks.length) : FnSpec C 6 [.str b, rdN ks n] [] (fun r L' => r = .bool true ∧ L' = []) := by
  refine FnSpec.start C_ok Tryd.func6 rfl rfl Tryd.ntmps6 ?_
  repeat (first | refine OpsA.cons ?_ | refine OpsA.nil ?_ | refine OrdA.cons rfl ?_ | refine OrdA.nil ?_ | refine OrdW.cons rfl ?_ | refine OrdW.nil ?_ | refine OrdK.cons rfl ?_ | refine OrdK.nil ?_ | refine OrdN.one rfl ?_ | refine OrdN.nil ?_ | refine Run.textA C_ok (aopZ_sound C_ok) ?_ | refine And.intro rfl ?_ | refine And.intro (Nat.le_of_ble_eq_true rfl) ?_ | refine And.intro (Int.natCast_nonneg _) ?_ | refine fun (_ : Nat) => ?_ | refine Ord.go ?_ | refine Run.go rfl ?_ | refine Cont.go rfl ?_ | refine OrdP.go ?_)
  refine CallZ.plain (ACallT.ok (ACall.pure _ new_spec ?_))
  rintro r L' ⟨gt, gm, es, cl, hT, rfl, rfl⟩
  refine ⟨_, Sub.refl _, ?_⟩
  repeat (first | refine OpsA.cons ?_ | refine OpsA.nil ?_ | refine OrdA.cons rfl ?_ | refine OrdA.nil ?_ | refine OrdW.cons rfl ?_ | refine OrdW.nil ?_ | refine OrdK.cons rfl ?_ | refine OrdK.nil ?_ | refine OrdN.one rfl ?_ | refine OrdN.nil ?_ | refine Run.textA C_ok (aopZ_sound C_ok) ?_ | refine And.intro rfl ?_ | refine And.intro (Nat.le_of_ble_eq_true rfl) ?_ | refine And.intro (Int.natCast_nonneg _) ?_ | refine fun (_ : Nat) => ?_ | refine Ord.go ?_ | refine Run.go rfl ?_ | refine Cont.go rfl ?_ | refine OrdP.go ?_)
  rename_i go
  refine CallZ.frz [2] [0, 1] (by kernel_rfl) [.ptr 0 gt 0, .int .i64 1, .int .i64 1, .ro 5 ([⟨1, qP, eS, 0, 0⟩].map encO) 1] ⟨.same _, .same _, .same _, .row 2 go 1 1 tO 5 _ rfl (by decide), trivial⟩ ?_
  refine ACall.sel [0, 1] (by decide) [.ptr 0 gt 0, .int .i64 1, .int .i64 1, .ro 5 ([⟨1, qP, eS, 0, 0⟩].map encO) 1] _ ⟨Sub.refl _, Sub.refl _, Sub.refl _, Sub.refl _, trivial⟩ (play_spec gt gm hT TInv.new 1 1 [⟨1, qP, eS, 0, 0⟩] 1 (by decide)) ?_
  intro r L' hq
  obtain ⟨gm', es', cl', hT', rfl, rfl⟩ := hq
  have e1 : playR [rootF] 1 1 (List.take 1 [⟨1, qP, eS, 0, 0⟩]) = _ := first_play
  rw [e1] at hT' ⊢
  refine ⟨.tuple [encP ⟨1, 0, 0, [told qX]⟩, encCs [⟨1, qP, eS, 0⟩]], Sub.refl _, ?_⟩
  repeat (first | refine OpsA.cons ?_ | refine OpsA.nil ?_ | refine OrdA.cons rfl ?_ | refine OrdA.nil ?_ | refine OrdW.cons rfl ?_ | refine OrdW.nil ?_ | refine OrdK.cons rfl ?_ | refine OrdK.nil ?_ | refine OrdN.one rfl ?_ | refine OrdN.nil ?_ | refine Run.textA C_ok (aopZ_sound C_ok) ?_ | refine And.intro rfl ?_ | refine And.intro (Nat.le_of_ble_eq_true rfl) ?_ | refine And.intro (Int.natCast_nonneg _) ?_ | refine fun (_ : Nat) => ?_ | refine Ord.go ?_ | refine Run.go rfl ?_ | refine Cont.go rfl ?_ | refine OrdP.go ?_)
  rename_i gb
  refine CallZ.plain (ACallT.lendD _ _ (.two (.same _) (.row 4 gb 1 1 9 1 _ rfl (by simp))) (join_spec2 b) ?_)
  rintro r L' ⟨rfl, rfl⟩
  refine ⟨rfl, rfl, _, Sub.refl _, ?_⟩
  repeat (first | refine OpsA.cons ?_ | refine OpsA.nil ?_ | refine OrdA.cons rfl ?_ | refine OrdA.nil ?_ | refine OrdW.cons rfl ?_ | refine OrdW.nil ?_ | refine OrdK.cons rfl ?_ | refine OrdK.nil ?_ | refine OrdN.one rfl ?_ | refine OrdN.nil ?_ | refine Run.textA C_ok (aopZ_sound C_ok) ?_ | refine And.intro rfl ?_ | refine And.intro (Nat.le_of_ble_eq_true rfl) ?_ | refine And.intro (Int.natCast_nonneg _) ?_ | refine fun (_ : Nat) => ?_ | refine Ord.go ?_ | refine Run.go rfl ?_ | refine Cont.go rfl ?_ | refine OrdP.go ?_)
  refine CallZ.plain (ACallT.ok (ACall.ret (num_spec 0) ?_))
  repeat (first | refine OpsA.cons ?_ | refine OpsA.nil ?_ | refine OrdA.cons rfl ?_ | refine OrdA.nil ?_ | refine OrdW.cons rfl ?_ | refine OrdW.nil ?_ | refine OrdK.cons rfl ?_ | refine OrdK.nil ?_ | refine OrdN.one rfl ?_ | refine OrdN.nil ?_ | refine Run.textA C_ok (aopZ_sound C_ok) ?_ | refine And.intro rfl ?_ | refine And.intro (Nat.le_of_ble_eq_true rfl) ?_ | refine And.intro (Int.natCast_nonneg _) ?_ | refine fun (_ : Nat) => ?_ | refine Ord.go ?_ | refine Run.go rfl ?_ | refine Cont.go rfl ?_ | refine OrdP.go ?_)
  refine ⟨fun h => absurd rfl h, fun _ => ?_⟩
  repeat (first | refine OpsA.cons ?_ | refine OpsA.nil ?_ | refine OrdA.cons rfl ?_ | refine OrdA.nil ?_ | refine OrdW.cons rfl ?_ | refine OrdW.nil ?_ | refine OrdK.cons rfl ?_ | refine OrdK.nil ?_ | refine OrdN.one rfl ?_ | refine OrdN.nil ?_ | refine Run.textA C_ok (aopZ_sound C_ok) ?_ | refine And.intro rfl ?_ | refine And.intro (Nat.le_of_ble_eq_true rfl) ?_ | refine And.intro (Int.natCast_nonneg _) ?_ | refine fun (_ : Nat) => ?_ | refine Ord.go ?_ | refine Run.go rfl ?_ | refine Cont.go rfl ?_ | refine OrdP.go ?_)
  refine Run.loopW (fun k env L => ∃ (i c : Nat) (last : ByteArray) (l : List Fu) (gm : Nat) (es : Array MapEntry) (cl : Nat), k = 61 - i ∧ i ≤ 60 ∧ c ≤ i ∧ CI b l c ∧ TM l es cl ∧ (last = eS ∨ (isNameB b = true ∧ ∃ k : Int, last = countedB (joinP b) k)) ∧ env = [.str b, rdN ks n, .junk, .junk, .bool false, .ptr 0 gt 0, .junk, .junk, .str (joinP b), .int .i64 (joinE b), .int .i64 c, .str last, .int .i64 i, .junk, .junk, .junk, .junk, .junk, .junk, .junk, .junk, .junk, .junk, .junk, .junk, .junk, .junk, .junk, .junk, .junk, .junk, .junk, .junk, .junk, .junk, .junk, .junk, .junk, .junk, .junk, .junk, .junk, .junk, .junk, .junk, .junk, .junk, .junk, .junk, .junk, .junk, .junk, .junk, .junk, .junk, .junk, .junk, .junk, .junk, .junk, .junk, .junk, .junk, .junk, .junk, .junk, .junk, .junk, .junk, .junk, .junk, .junk, .junk, .junk, .junk, .junk, .junk, .junk, .junk, .junk, .junk, .junk, .junk, .junk, .junk, .junk, .junk, .junk, .junk, .junk, .junk, .junk, .junk, .junk, .junk, .junk, .junk, .junk, .junk, .junk, .junk, .junk, .junk, .junk, .junk, .junk, .junk, .junk, .junk, .junk, .junk, .junk, .junk, .junk, .junk, .junk, .junk, .junk, .junk, .junk, .junk, .junk, .junk, .junk, .junk, .junk, .junk, .junk, .junk, .junk] ∧ L = TreeL gt gm es cl) 61
    [.str b, rdN ks n, .junk, .junk, .bool false, .ptr 0 gt 0, .junk, .junk, .str (joinP b), .int .i64 (joinE b), .int .i64 (0 : Nat), .str eS, .int .i64 (0 : Nat), .junk, .junk, .junk, .junk, .junk, .junk, .junk, .junk, .junk, .junk, .junk, .junk, .junk, .junk, .junk, .junk, .junk, .junk, .junk, .junk, .junk, .junk, .junk, .junk, .junk, .junk, .junk, .junk, .junk, .junk, .junk, .junk, .junk, .junk, .junk, .junk, .junk, .junk, .junk, .junk, .junk, .junk, .junk, .junk, .junk, .junk, .junk, .junk, .junk, .junk, .junk, .junk, .junk, .junk, .junk, .junk, .junk, .junk, .junk, .junk, .junk, .junk, .junk, .junk, .junk, .junk, .junk, .junk, .junk, .junk, .junk, .junk, .junk, .junk, .junk, .junk, .junk, .junk, .junk, .junk, .junk, .junk, .junk, .junk, .junk, .junk, .junk, .junk, .junk, .junk, .junk, .junk, .junk, .junk, .junk, .junk, .junk, .junk, .junk, .junk, .junk, .junk, .junk, .junk, .junk, .junk, .junk, .junk, .junk, .junk, .junk, .junk, .junk, .junk, .junk, .junk, .junk] (TreeL gt gm' es' cl') (Weak.sel ?_ [0, 1] (by decide) ?_) ⟨0, 0, eS, _, gm', es', cl', by omega, by omega, by omega, CI.first b, hT', .inl rfl, rfl, rfl⟩ ?_
  · repeat (first | exact trivial | refine And.intro (Sub.junk _) ?_ | refine And.intro (Sub.refl _) ?_ | refine And.intro (Sub.sl _ _ _ _ _) ?_ | refine And.intro (Sub.ptr _ _ _ _) ?_)
  · repeat (first | exact trivial | refine And.intro rfl ?_ | refine And.intro (SubO.refl _) ?_ | refine And.intro trivial ?_ | refine And.intro (SubO.cells (by repeat (first | exact trivial | refine And.intro (Sub.refl _) ?_ | refine And.intro (Sub.sl _ _ _ _ _) ?_ | refine And.intro (Sub.ptr _ _ _ _) ?_))) ?_)
  rintro k env L ⟨i, c, last, l, gm, es, cl, rfl, hi, hci, hC, hT, hl, rfl, rfl⟩
  repeat (first | refine OpsA.cons ?_ | refine OpsA.nil ?_ | refine OrdA.cons rfl ?_ | refine OrdA.nil ?_ | refine OrdW.cons rfl ?_ | refine OrdW.nil ?_ | refine OrdK.cons rfl ?_ | refine OrdK.nil ?_ | refine OrdN.one rfl ?_ | refine OrdN.nil ?_ | refine Run.textA C_ok (aopZ_sound C_ok) ?_ | refine And.intro rfl ?_ | refine And.intro (Nat.le_of_ble_eq_true rfl) ?_ | refine And.intro (Int.natCast_nonneg _) ?_ | refine fun (_ : Nat) => ?_ | refine Ord.go ?_ | refine Run.go rfl ?_ | refine Cont.go rfl ?_ | refine OrdP.go ?_)
  refine ⟨fun h => ?_, fun h => ?_⟩
  rotate_left
  · repeat (first | refine OpsA.cons ?_ | refine OpsA.nil ?_ | refine OrdA.cons rfl ?_ | refine OrdA.nil ?_ | refine OrdW.cons rfl ?_ | refine OrdW.nil ?_ | refine OrdK.cons rfl ?_ | refine OrdK.nil ?_ | refine OrdN.one rfl ?_ | refine OrdN.nil ?_ | refine Run.textA C_ok (aopZ_sound C_ok) ?_ | refine And.intro rfl ?_ | refine And.intro (Nat.le_of_ble_eq_true rfl) ?_ | refine And.intro (Int.natCast_nonneg _) ?_ | refine fun (_ : Nat) => ?_ | refine Ord.go ?_ | refine Run.go rfl ?_ | refine Cont.go rfl ?_ | refine OrdP.go ?_)
    refine CallZ.plain (ACallT.ok (ACall.ret known_spec ?_))
    repeat (first | refine OpsA.cons ?_ | refine OpsA.nil ?_ | refine OrdA.cons rfl ?_ | refine OrdA.nil ?_ | refine OrdW.cons rfl ?_ | refine OrdW.nil ?_ | refine OrdK.cons rfl ?_ | refine OrdK.nil ?_ | refine OrdN.one rfl ?_ | refine OrdN.nil ?_ | refine Run.textA C_ok (aopZ_sound C_ok) ?_ | refine And.intro rfl ?_ | refine And.intro (Nat.le_of_ble_eq_true rfl) ?_ | refine And.intro (Int.natCast_nonneg _) ?_ | refine fun (_ : Nat) => ?_ | refine Ord.go ?_ | refine Run.go rfl ?_ | refine Cont.go rfl ?_ | refine OrdP.go ?_)
    exact ⟨_, [], FinOk.drop _ _, rfl, rfl⟩
  have h : (i : Int) < (n : Int) := h
  repeat (first | refine OpsA.cons ?_ | refine OpsA.nil ?_ | refine OrdA.cons rfl ?_ | refine OrdA.nil ?_ | refine OrdW.cons rfl ?_ | refine OrdW.nil ?_ | refine OrdK.cons rfl ?_ | refine OrdK.nil ?_ | refine OrdN.one rfl ?_ | refine OrdN.nil ?_ | refine Run.textA C_ok (aopZ_sound C_ok) ?_ | refine And.intro rfl ?_ | refine And.intro (Nat.le_of_ble_eq_true rfl) ?_ | refine And.intro (Int.natCast_nonneg _) ?_ | refine fun (_ : Nat) => ?_ | refine Ord.go ?_ | refine Run.go rfl ?_ | refine Cont.go rfl ?_ | refine OrdP.go ?_)
  refine ⟨fun h2 => ?_, fun h2 => ?_⟩
  rotate_left
  · repeat (first | refine OpsA.cons ?_ | refine OpsA.nil ?_ | refine OrdA.cons rfl ?_ | refine OrdA.nil ?_ | refine OrdW.cons rfl ?_ | refine OrdW.nil ?_ | refine OrdK.cons rfl ?_ | refine OrdK.nil ?_ | refine OrdN.one rfl ?_ | refine OrdN.nil ?_ | refine Run.textA C_ok (aopZ_sound C_ok) ?_ | refine And.intro rfl ?_ | refine And.intro (Nat.le_of_ble_eq_true rfl) ?_ | refine And.intro (Int.natCast_nonneg _) ?_ | refine fun (_ : Nat) => ?_ | refine Ord.go ?_ | refine Run.go rfl ?_ | refine Cont.go rfl ?_ | refine OrdP.go ?_)
    refine CallZ.plain (ACallT.ok (ACall.ret known_spec ?_))
    repeat (first | refine OpsA.cons ?_ | refine OpsA.nil ?_ | refine OrdA.cons rfl ?_ | refine OrdA.nil ?_ | refine OrdW.cons rfl ?_ | refine OrdW.nil ?_ | refine OrdK.cons rfl ?_ | refine OrdK.nil ?_ | refine OrdN.one rfl ?_ | refine OrdN.nil ?_ | refine Run.textA C_ok (aopZ_sound C_ok) ?_ | refine And.intro rfl ?_ | refine And.intro (Nat.le_of_ble_eq_true rfl) ?_ | refine And.intro (Int.natCast_nonneg _) ?_ | refine fun (_ : Nat) => ?_ | refine Ord.go ?_ | refine Run.go rfl ?_ | refine Cont.go rfl ?_ | refine OrdP.go ?_)
    exact ⟨_, [], FinOk.drop _ _, rfl, rfl⟩
  have h2 : (i : Int) < 60 := h2
  obtain ⟨s, es0⟩ : ∃ s, ks[i]? = some s := ⟨_, List.getElem?_eq_getElem (by omega)⟩
  repeat (first | refine OpsA.cons ?_ | refine OpsA.nil ?_ | refine OrdA.cons rfl ?_ | refine OrdA.nil ?_ | refine OrdW.cons rfl ?_ | refine OrdW.nil ?_ | refine OrdK.cons rfl ?_ | refine OrdK.nil ?_ | refine OrdN.one rfl ?_ | refine OrdN.nil ?_ | refine Run.textA C_ok (aopZ_sound C_ok) ?_ | refine And.intro rfl ?_ | refine And.intro (Nat.le_of_ble_eq_true rfl) ?_ | refine And.intro (Int.natCast_nonneg _) ?_ | refine fun (_ : Nat) => ?_ | refine Ord.go ?_ | refine Run.go rfl ?_ | refine Cont.go rfl ?_ | refine OrdP.go ?_)
  refine ⟨h, .int .i64 s, map_at (AV.int .i64) es0, ?_⟩
  repeat (first | refine OpsA.cons ?_ | refine OpsA.nil ?_ | refine OrdA.cons rfl ?_ | refine OrdA.nil ?_ | refine OrdW.cons rfl ?_ | refine OrdW.nil ?_ | refine OrdK.cons rfl ?_ | refine OrdK.nil ?_ | refine OrdN.one rfl ?_ | refine OrdN.nil ?_ | refine Run.textA C_ok (aopZ_sound C_ok) ?_ | refine And.intro rfl ?_ | refine And.intro (Nat.le_of_ble_eq_true rfl) ?_ | refine And.intro (Int.natCast_nonneg _) ?_ | refine fun (_ : Nat) => ?_ | refine Ord.go ?_ | refine Run.go rfl ?_ | refine Cont.go rfl ?_ | refine OrdP.go ?_)
  refine ⟨fun h0 => ?_, fun h0 => ?_⟩
  · have h0 : s = 0 := h0
    repeat (first | refine OpsA.cons ?_ | refine OpsA.nil ?_ | refine OrdA.cons rfl ?_ | refine OrdA.nil ?_ | refine OrdW.cons rfl ?_ | refine OrdW.nil ?_ | refine OrdK.cons rfl ?_ | refine OrdK.nil ?_ | refine OrdN.one rfl ?_ | refine OrdN.nil ?_ | refine Run.textA C_ok (aopZ_sound C_ok) ?_ | refine And.intro rfl ?_ | refine And.intro (Nat.le_of_ble_eq_true rfl) ?_ | refine And.intro (Int.natCast_nonneg _) ?_ | refine fun (_ : Nat) => ?_ | refine Ord.go ?_ | refine Run.go rfl ?_ | refine Cont.go rfl ?_ | refine OrdP.go ?_)
    rename_i go
    refine CallZ.frz [2] [0, 1] (by kernel_rfl) [.ptr 0 gt 0, .int .i64 1, .int .i64 2, .ro 5 ([⟨3, last, eS, -1, 0⟩].map encO) 1] ⟨.same _, .same _, .same _, .row 2 go 1 1 tO 5 _ rfl (by simp), trivial⟩ ?_
    refine ACall.sel [0, 1] (by decide) [.ptr 0 gt 0, .int .i64 1, .int .i64 2, .ro 5 ([⟨3, last, eS, -1, 0⟩].map encO) 1] _ ⟨Sub.refl _, Sub.refl _, Sub.refl _, Sub.refl _, trivial⟩ (play_spec gt gm hT hC.inv 1 2 [⟨3, last, eS, -1, 0⟩] 1 (by simp)) ?_
    intro r L' hq
    obtain ⟨gm2, es2, cl2, hT2, rfl, rfl⟩ := hq
    have hC2 : CI b (playR l 1 2 (List.take 1 [⟨3, last, eS, -1, 0⟩])).1 c := hC.drop hl
    generalize playR l 1 2 (List.take 1 [⟨3, last, eS, -1, 0⟩]) = R at hT2 hC2
    obtain ⟨l2, ⟨rst, code, at_, rs⟩, cs⟩ := R
    refine ⟨.tuple [encP ⟨rst, code, at_, rs⟩, encCs cs], Sub.refl _, ?_⟩
    repeat (first | refine OpsA.cons ?_ | refine OpsA.nil ?_ | refine OrdA.cons rfl ?_ | refine OrdA.nil ?_ | refine OrdW.cons rfl ?_ | refine OrdW.nil ?_ | refine OrdK.cons rfl ?_ | refine OrdK.nil ?_ | refine OrdN.one rfl ?_ | refine OrdN.nil ?_ | refine Run.textA C_ok (aopZ_sound C_ok) ?_ | refine And.intro rfl ?_ | refine And.intro (Nat.le_of_ble_eq_true rfl) ?_ | refine And.intro (Int.natCast_nonneg _) ?_ | refine fun (_ : Nat) => ?_ | refine Ord.go ?_ | refine Run.go rfl ?_ | refine Cont.go rfl ?_ | refine OrdP.go ?_)
    refine fun r hr => ?_
    obtain rfl := add1 hr (by omega)
    repeat (first | refine OpsA.cons ?_ | refine OpsA.nil ?_ | refine OrdA.cons rfl ?_ | refine OrdA.nil ?_ | refine OrdW.cons rfl ?_ | refine OrdW.nil ?_ | refine OrdK.cons rfl ?_ | refine OrdK.nil ?_ | refine OrdN.one rfl ?_ | refine OrdN.nil ?_ | refine Run.textA C_ok (aopZ_sound C_ok) ?_ | refine And.intro rfl ?_ | refine And.intro (Nat.le_of_ble_eq_true rfl) ?_ | refine And.intro (Int.natCast_nonneg _) ?_ | refine fun (_ : Nat) => ?_ | refine Ord.go ?_ | refine Run.go rfl ?_ | refine Cont.go rfl ?_ | refine OrdP.go ?_)
    refine Cont.lpW ?_
    refine ⟨61 - (i + 1), _, _, by omega, Weak.sel ?_ [0, 1] (by decide) ?_, ⟨i + 1, c, last, l2, gm2, es2, cl2, rfl, by omega, by omega, hC2, hT2, hl, rfl, rfl⟩⟩
    · repeat (first | exact trivial | refine And.intro (Sub.junk _) ?_ | refine And.intro (Sub.refl _) ?_ | refine And.intro (Sub.sl _ _ _ _ _) ?_ | refine And.intro (Sub.ptr _ _ _ _) ?_)
    · repeat (first | exact trivial | refine And.intro rfl ?_ | refine And.intro (SubO.refl _) ?_ | refine And.intro trivial ?_ | refine And.intro (SubO.cells (by repeat (first | exact trivial | refine And.intro (Sub.refl _) ?_ | refine And.intro (Sub.sl _ _ _ _ _) ?_ | refine And.intro (Sub.ptr _ _ _ _) ?_))) ?_)
  repeat (first | refine OpsA.cons ?_ | refine OpsA.nil ?_ | refine OrdA.cons rfl ?_ | refine OrdA.nil ?_ | refine OrdW.cons rfl ?_ | refine OrdW.nil ?_ | refine OrdK.cons rfl ?_ | refine OrdK.nil ?_ | refine OrdN.one rfl ?_ | refine OrdN.nil ?_ | refine Run.textA C_ok (aopZ_sound C_ok) ?_ | refine And.intro rfl ?_ | refine And.intro (Nat.le_of_ble_eq_true rfl) ?_ | refine And.intro (Int.natCast_nonneg _) ?_ | refine fun (_ : Nat) => ?_ | refine Ord.go ?_ | refine Run.go rfl ?_ | refine Cont.go rfl ?_ | refine OrdP.go ?_)
  refine ⟨fun h1 => ?_, fun h1 => ?_⟩
  · have h1 : s = 1 := h1
    repeat (first | refine OpsA.cons ?_ | refine OpsA.nil ?_ | refine OrdA.cons rfl ?_ | refine OrdA.nil ?_ | refine OrdW.cons rfl ?_ | refine OrdW.nil ?_ | refine OrdK.cons rfl ?_ | refine OrdK.nil ?_ | refine OrdN.one rfl ?_ | refine OrdN.nil ?_ | refine Run.textA C_ok (aopZ_sound C_ok) ?_ | refine And.intro rfl ?_ | refine And.intro (Nat.le_of_ble_eq_true rfl) ?_ | refine And.intro (Int.natCast_nonneg _) ?_ | refine fun (_ : Nat) => ?_ | refine Ord.go ?_ | refine Run.go rfl ?_ | refine Cont.go rfl ?_ | refine OrdP.go ?_)
    rename_i go
    refine CallZ.frz [2] [0, 1] (by kernel_rfl) [.ptr 0 gt 0, .int .i64 1, .int .i64 2, .ro 5 ([⟨1, joinP b, eS, 0, 2⟩, ⟨3, slash, eS, 0, 0⟩].map encO) 2] ⟨.same _, .same _, .same _, .row 2 go 2 2 tO 5 _ rfl (by simp), trivial⟩ ?_
    refine ACall.sel [0, 1] (by decide) [.ptr 0 gt 0, .int .i64 1, .int .i64 2, .ro 5 ([⟨1, joinP b, eS, 0, 2⟩, ⟨3, slash, eS, 0, 0⟩].map encO) 2] _ ⟨Sub.refl _, Sub.refl _, Sub.refl _, Sub.refl _, trivial⟩ (play_spec gt gm hT hC.inv 1 2 [⟨1, joinP b, eS, 0, 2⟩, ⟨3, slash, eS, 0, 0⟩] 2 (by simp)) ?_
    intro r L' hq
    obtain ⟨gm2, es2, cl2, hT2, rfl, rfl⟩ := hq
    obtain ⟨code, at_, hc, e2⟩ := pair_refused l (joinP b)
    have e2 : playR l 1 2 (List.take 2 [⟨1, joinP b, eS, 0, 2⟩, ⟨3, slash, eS, 0, 0⟩]) = _ := e2
    rw [e2] at hT2 ⊢
    refine ⟨.tuple [encP ⟨2, code, at_, []⟩, encCs []], Sub.refl _, ?_⟩
    repeat (first | refine OpsA.cons ?_ | refine OpsA.nil ?_ | refine OrdA.cons rfl ?_ | refine OrdA.nil ?_ | refine OrdW.cons rfl ?_ | refine OrdW.nil ?_ | refine OrdK.cons rfl ?_ | refine OrdK.nil ?_ | refine OrdN.one rfl ?_ | refine OrdN.nil ?_ | refine Run.textA C_ok (aopZ_sound C_ok) ?_ | refine And.intro rfl ?_ | refine And.intro (Nat.le_of_ble_eq_true rfl) ?_ | refine And.intro (Int.natCast_nonneg _) ?_ | refine fun (_ : Nat) => ?_ | refine Ord.go ?_ | refine Run.go rfl ?_ | refine Cont.go rfl ?_ | refine OrdP.go ?_)
    refine CallZ.plain (ACallT.ok (ACall.ret (num_spec code) ?_))
    repeat (first | refine OpsA.cons ?_ | refine OpsA.nil ?_ | refine OrdA.cons rfl ?_ | refine OrdA.nil ?_ | refine OrdW.cons rfl ?_ | refine OrdW.nil ?_ | refine OrdK.cons rfl ?_ | refine OrdK.nil ?_ | refine OrdN.one rfl ?_ | refine OrdN.nil ?_ | refine Run.textA C_ok (aopZ_sound C_ok) ?_ | refine And.intro rfl ?_ | refine And.intro (Nat.le_of_ble_eq_true rfl) ?_ | refine And.intro (Int.natCast_nonneg _) ?_ | refine fun (_ : Nat) => ?_ | refine Ord.go ?_ | refine Run.go rfl ?_ | refine Cont.go rfl ?_ | refine OrdP.go ?_)
    refine ⟨fun h => absurd h hc, fun _ => ?_⟩
    repeat (first | refine OpsA.cons ?_ | refine OpsA.nil ?_ | refine OrdA.cons rfl ?_ | refine OrdA.nil ?_ | refine OrdW.cons rfl ?_ | refine OrdW.nil ?_ | refine OrdK.cons rfl ?_ | refine OrdK.nil ?_ | refine OrdN.one rfl ?_ | refine OrdN.nil ?_ | refine Run.textA C_ok (aopZ_sound C_ok) ?_ | refine And.intro rfl ?_ | refine And.intro (Nat.le_of_ble_eq_true rfl) ?_ | refine And.intro (Int.natCast_nonneg _) ?_ | refine fun (_ : Nat) => ?_ | refine Ord.go ?_ | refine Run.go rfl ?_ | refine Cont.go rfl ?_ | refine OrdP.go ?_)
    refine fun r hr => ?_
    obtain rfl := add1 hr (by omega)
    repeat (first | refine OpsA.cons ?_ | refine OpsA.nil ?_ | refine OrdA.cons rfl ?_ | refine OrdA.nil ?_ | refine OrdW.cons rfl ?_ | refine OrdW.nil ?_ | refine OrdK.cons rfl ?_ | refine OrdK.nil ?_ | refine OrdN.one rfl ?_ | refine OrdN.nil ?_ | refine Run.textA C_ok (aopZ_sound C_ok) ?_ | refine And.intro rfl ?_ | refine And.intro (Nat.le_of_ble_eq_true rfl) ?_ | refine And.intro (Int.natCast_nonneg _) ?_ | refine fun (_ : Nat) => ?_ | refine Ord.go ?_ | refine Run.go rfl ?_ | refine Cont.go rfl ?_ | refine OrdP.go ?_)
    refine Cont.lpW ?_
    refine ⟨61 - (i + 1), _, _, by omega, Weak.sel ?_ [0, 1] (by decide) ?_, ⟨i + 1, c, last, l, gm2, es2, cl2, rfl, by omega, by omega, hC, hT2, hl, rfl, rfl⟩⟩
    · repeat (first | exact trivial | refine And.intro (Sub.junk _) ?_ | refine And.intro (Sub.refl _) ?_ | refine And.intro (Sub.sl _ _ _ _ _) ?_ | refine And.intro (Sub.ptr _ _ _ _) ?_)
    · repeat (first | exact trivial | refine And.intro rfl ?_ | refine And.intro (SubO.refl _) ?_ | refine And.intro trivial ?_ | refine And.intro (SubO.cells (by repeat (first | exact trivial | refine And.intro (Sub.refl _) ?_ | refine And.intro (Sub.sl _ _ _ _ _) ?_ | refine And.intro (Sub.ptr _ _ _ _) ?_))) ?_)
  repeat (first | refine OpsA.cons ?_ | refine OpsA.nil ?_ | refine OrdA.cons rfl ?_ | refine OrdA.nil ?_ | refine OrdW.cons rfl ?_ | refine OrdW.nil ?_ | refine OrdK.cons rfl ?_ | refine OrdK.nil ?_ | refine OrdN.one rfl ?_ | refine OrdN.nil ?_ | refine Run.textA C_ok (aopZ_sound C_ok) ?_ | refine And.intro rfl ?_ | refine And.intro (Nat.le_of_ble_eq_true rfl) ?_ | refine And.intro (Int.natCast_nonneg _) ?_ | refine fun (_ : Nat) => ?_ | refine Ord.go ?_ | refine Run.go rfl ?_ | refine Cont.go rfl ?_ | refine OrdP.go ?_)
  refine ⟨fun h3 => ?_, fun h3 => ?_⟩
  · have h3 : s = 2 := h3
    repeat (first | refine OpsA.cons ?_ | refine OpsA.nil ?_ | refine OrdA.cons rfl ?_ | refine OrdA.nil ?_ | refine OrdW.cons rfl ?_ | refine OrdW.nil ?_ | refine OrdK.cons rfl ?_ | refine OrdK.nil ?_ | refine OrdN.one rfl ?_ | refine OrdN.nil ?_ | refine Run.textA C_ok (aopZ_sound C_ok) ?_ | refine And.intro rfl ?_ | refine And.intro (Nat.le_of_ble_eq_true rfl) ?_ | refine And.intro (Int.natCast_nonneg _) ?_ | refine fun (_ : Nat) => ?_ | refine Ord.go ?_ | refine Run.go rfl ?_ | refine Cont.go rfl ?_ | refine OrdP.go ?_)
    rename_i go
    refine CallZ.frz [2] [0, 1] (by kernel_rfl) [.ptr 0 gt 0, .int .i64 1, .int .i64 2, .ro 5 ([⟨1, plainP, eS, 0, 0⟩].map encO) 1] ⟨.same _, .same _, .same _, .row 2 go 1 1 tO 5 _ rfl (by simp), trivial⟩ ?_
    refine ACall.sel [0, 1] (by decide) [.ptr 0 gt 0, .int .i64 1, .int .i64 2, .ro 5 ([⟨1, plainP, eS, 0, 0⟩].map encO) 1] _ ⟨Sub.refl _, Sub.refl _, Sub.refl _, Sub.refl _, trivial⟩ (play_spec gt gm hT hC.inv 1 2 [⟨1, plainP, eS, 0, 0⟩] 1 (by simp)) ?_
    intro r L' hq
    obtain ⟨gm2, es2, cl2, hT2, rfl, rfl⟩ := hq
    have hC2 : CI b (playR l 1 2 (List.take 1 [⟨1, plainP, eS, 0, 0⟩])).1 c := hC.plain
    generalize playR l 1 2 (List.take 1 [⟨1, plainP, eS, 0, 0⟩]) = R at hT2 hC2
    obtain ⟨l2, ⟨rst, code, at_, rs⟩, cs⟩ := R
    refine ⟨.tuple [encP ⟨rst, code, at_, rs⟩, encCs cs], Sub.refl _, ?_⟩
    repeat (first | refine OpsA.cons ?_ | refine OpsA.nil ?_ | refine OrdA.cons rfl ?_ | refine OrdA.nil ?_ | refine OrdW.cons rfl ?_ | refine OrdW.nil ?_ | refine OrdK.cons rfl ?_ | refine OrdK.nil ?_ | refine OrdN.one rfl ?_ | refine OrdN.nil ?_ | refine Run.textA C_ok (aopZ_sound C_ok) ?_ | refine And.intro rfl ?_ | refine And.intro (Nat.le_of_ble_eq_true rfl) ?_ | refine And.intro (Int.natCast_nonneg _) ?_ | refine fun (_ : Nat) => ?_ | refine Ord.go ?_ | refine Run.go rfl ?_ | refine Cont.go rfl ?_ | refine OrdP.go ?_)
    refine fun r hr => ?_
    obtain rfl := add1 hr (by omega)
    repeat (first | refine OpsA.cons ?_ | refine OpsA.nil ?_ | refine OrdA.cons rfl ?_ | refine OrdA.nil ?_ | refine OrdW.cons rfl ?_ | refine OrdW.nil ?_ | refine OrdK.cons rfl ?_ | refine OrdK.nil ?_ | refine OrdN.one rfl ?_ | refine OrdN.nil ?_ | refine Run.textA C_ok (aopZ_sound C_ok) ?_ | refine And.intro rfl ?_ | refine And.intro (Nat.le_of_ble_eq_true rfl) ?_ | refine And.intro (Int.natCast_nonneg _) ?_ | refine fun (_ : Nat) => ?_ | refine Ord.go ?_ | refine Run.go rfl ?_ | refine Cont.go rfl ?_ | refine OrdP.go ?_)
    refine Cont.lpW ?_
    refine ⟨61 - (i + 1), _, _, by omega, Weak.sel ?_ [0, 1] (by decide) ?_, ⟨i + 1, c, last, l2, gm2, es2, cl2, rfl, by omega, by omega, hC2, hT2, hl, rfl, rfl⟩⟩
    · repeat (first | exact trivial | refine And.intro (Sub.junk _) ?_ | refine And.intro (Sub.refl _) ?_ | refine And.intro (Sub.sl _ _ _ _ _) ?_ | refine And.intro (Sub.ptr _ _ _ _) ?_)
    · repeat (first | exact trivial | refine And.intro rfl ?_ | refine And.intro (SubO.refl _) ?_ | refine And.intro trivial ?_ | refine And.intro (SubO.cells (by repeat (first | exact trivial | refine And.intro (Sub.refl _) ?_ | refine And.intro (Sub.sl _ _ _ _ _) ?_ | refine And.intro (Sub.ptr _ _ _ _) ?_))) ?_)
  repeat (first | refine OpsA.cons ?_ | refine OpsA.nil ?_ | refine OrdA.cons rfl ?_ | refine OrdA.nil ?_ | refine OrdW.cons rfl ?_ | refine OrdW.nil ?_ | refine OrdK.cons rfl ?_ | refine OrdK.nil ?_ | refine OrdN.one rfl ?_ | refine OrdN.nil ?_ | refine Run.textA C_ok (aopZ_sound C_ok) ?_ | refine And.intro rfl ?_ | refine And.intro (Nat.le_of_ble_eq_true rfl) ?_ | refine And.intro (Int.natCast_nonneg _) ?_ | refine fun (_ : Nat) => ?_ | refine Ord.go ?_ | refine Run.go rfl ?_ | refine Cont.go rfl ?_ | refine OrdP.go ?_)
  refine CallZ.plain (ACallT.ok (ACall.ret (counted_spec (joinP b) c) ?_))
  by_cases hg : goodB b
  · have hE := joinE_good hg
    have hF := countedE_good hg (k := c) (by omega)
    rw [hF, if_pos rfl, hE]
    repeat (first | refine OpsA.cons ?_ | refine OpsA.nil ?_ | refine OrdA.cons rfl ?_ | refine OrdA.nil ?_ | refine OrdW.cons rfl ?_ | refine OrdW.nil ?_ | refine OrdK.cons rfl ?_ | refine OrdK.nil ?_ | refine OrdN.one rfl ?_ | refine OrdN.nil ?_ | refine Run.textA C_ok (aopZ_sound C_ok) ?_ | refine And.intro rfl ?_ | refine And.intro (Nat.le_of_ble_eq_true rfl) ?_ | refine And.intro (Int.natCast_nonneg _) ?_ | refine fun (_ : Nat) => ?_ | refine Ord.go ?_ | refine Run.go rfl ?_ | refine Cont.go rfl ?_ | refine OrdP.go ?_)
    rename_i go
    refine CallZ.frz [2] [0, 1] (by kernel_rfl) [.ptr 0 gt 0, .int .i64 1, .int .i64 2, .ro 5 ([⟨1, joinP b, eS, 0, 2⟩].map encO) 1] ⟨.same _, .same _, .same _, .row 2 go 1 1 tO 5 _ rfl (by simp), trivial⟩ ?_
    refine ACall.sel [0, 1] (by decide) [.ptr 0 gt 0, .int .i64 1, .int .i64 2, .ro 5 ([⟨1, joinP b, eS, 0, 2⟩].map encO) 1] _ ⟨Sub.refl _, Sub.refl _, Sub.refl _, Sub.refl _, trivial⟩ (play_spec gt gm hT hC.inv 1 2 [⟨1, joinP b, eS, 0, 2⟩] 1 (by simp)) ?_
    intro r L' hq
    obtain ⟨gm2, es2, cl2, hT2, rfl, rfl⟩ := hq
    obtain ⟨l2, r, cs, e2, hr, hC2⟩ := hC.make (by omega) hg
    have e2 : playR l 1 2 (List.take 1 [⟨1, joinP b, eS, 0, 2⟩]) = _ := e2
    rw [e2] at hT2 ⊢
    refine ⟨.tuple [encP ⟨2, 0, 0, [r]⟩, encCs cs], Sub.refl _, ?_⟩
    repeat (first | refine OpsA.cons ?_ | refine OpsA.nil ?_ | refine OrdA.cons rfl ?_ | refine OrdA.nil ?_ | refine OrdW.cons rfl ?_ | refine OrdW.nil ?_ | refine OrdK.cons rfl ?_ | refine OrdK.nil ?_ | refine OrdN.one rfl ?_ | refine OrdN.nil ?_ | refine Run.textA C_ok (aopZ_sound C_ok) ?_ | refine And.intro rfl ?_ | refine And.intro (Nat.le_of_ble_eq_true rfl) ?_ | refine And.intro (Int.natCast_nonneg _) ?_ | refine fun (_ : Nat) => ?_ | refine Ord.go ?_ | refine Run.go rfl ?_ | refine Cont.go rfl ?_ | refine OrdP.go ?_)
    refine CallZ.plain (ACallT.ok (ACall.ret (num_spec 0) ?_))
    repeat (first | refine OpsA.cons ?_ | refine OpsA.nil ?_ | refine OrdA.cons rfl ?_ | refine OrdA.nil ?_ | refine OrdW.cons rfl ?_ | refine OrdW.nil ?_ | refine OrdK.cons rfl ?_ | refine OrdK.nil ?_ | refine OrdN.one rfl ?_ | refine OrdN.nil ?_ | refine Run.textA C_ok (aopZ_sound C_ok) ?_ | refine And.intro rfl ?_ | refine And.intro (Nat.le_of_ble_eq_true rfl) ?_ | refine And.intro (Int.natCast_nonneg _) ?_ | refine fun (_ : Nat) => ?_ | refine Ord.go ?_ | refine Run.go rfl ?_ | refine Cont.go rfl ?_ | refine OrdP.go ?_)
    refine ⟨fun h => absurd rfl h, fun _ => ?_⟩
    repeat (first | refine OpsA.cons ?_ | refine OpsA.nil ?_ | refine OrdA.cons rfl ?_ | refine OrdA.nil ?_ | refine OrdW.cons rfl ?_ | refine OrdW.nil ?_ | refine OrdK.cons rfl ?_ | refine OrdK.nil ?_ | refine OrdN.one rfl ?_ | refine OrdN.nil ?_ | refine Run.textA C_ok (aopZ_sound C_ok) ?_ | refine And.intro rfl ?_ | refine And.intro (Nat.le_of_ble_eq_true rfl) ?_ | refine And.intro (Int.natCast_nonneg _) ?_ | refine fun (_ : Nat) => ?_ | refine Ord.go ?_ | refine Run.go rfl ?_ | refine Cont.go rfl ?_ | refine OrdP.go ?_)
    refine CallZ.plain (ACallT.ok (ACall.ret (num_spec 0) ?_))
    repeat (first | refine OpsA.cons ?_ | refine OpsA.nil ?_ | refine OrdA.cons rfl ?_ | refine OrdA.nil ?_ | refine OrdW.cons rfl ?_ | refine OrdW.nil ?_ | refine OrdK.cons rfl ?_ | refine OrdK.nil ?_ | refine OrdN.one rfl ?_ | refine OrdN.nil ?_ | refine Run.textA C_ok (aopZ_sound C_ok) ?_ | refine And.intro rfl ?_ | refine And.intro (Nat.le_of_ble_eq_true rfl) ?_ | refine And.intro (Int.natCast_nonneg _) ?_ | refine fun (_ : Nat) => ?_ | refine Ord.go ?_ | refine Run.go rfl ?_ | refine Cont.go rfl ?_ | refine OrdP.go ?_)
    refine ⟨fun h => absurd rfl h, fun _ => ?_⟩
    repeat (first | refine OpsA.cons ?_ | refine OpsA.nil ?_ | refine OrdA.cons rfl ?_ | refine OrdA.nil ?_ | refine OrdW.cons rfl ?_ | refine OrdW.nil ?_ | refine OrdK.cons rfl ?_ | refine OrdK.nil ?_ | refine OrdN.one rfl ?_ | refine OrdN.nil ?_ | refine Run.textA C_ok (aopZ_sound C_ok) ?_ | refine And.intro rfl ?_ | refine And.intro (Nat.le_of_ble_eq_true rfl) ?_ | refine And.intro (Int.natCast_nonneg _) ?_ | refine fun (_ : Nat) => ?_ | refine Ord.go ?_ | refine Run.go rfl ?_ | refine Cont.go rfl ?_ | refine OrdP.go ?_)
    refine CallZ.plain (ACallT.ok (ACall.ret (num_spec 0) ?_))
    repeat (first | refine OpsA.cons ?_ | refine OpsA.nil ?_ | refine OrdA.cons rfl ?_ | refine OrdA.nil ?_ | refine OrdW.cons rfl ?_ | refine OrdW.nil ?_ | refine OrdK.cons rfl ?_ | refine OrdK.nil ?_ | refine OrdN.one rfl ?_ | refine OrdN.nil ?_ | refine Run.textA C_ok (aopZ_sound C_ok) ?_ | refine And.intro rfl ?_ | refine And.intro (Nat.le_of_ble_eq_true rfl) ?_ | refine And.intro (Int.natCast_nonneg _) ?_ | refine fun (_ : Nat) => ?_ | refine Ord.go ?_ | refine Run.go rfl ?_ | refine Cont.go rfl ?_ | refine OrdP.go ?_)
    refine ⟨fun h => absurd rfl h, fun _ => ?_⟩
    repeat (first | refine OpsA.cons ?_ | refine OpsA.nil ?_ | refine OrdA.cons rfl ?_ | refine OrdA.nil ?_ | refine OrdW.cons rfl ?_ | refine OrdW.nil ?_ | refine OrdK.cons rfl ?_ | refine OrdK.nil ?_ | refine OrdN.one rfl ?_ | refine OrdN.nil ?_ | refine Run.textA C_ok (aopZ_sound C_ok) ?_ | refine And.intro rfl ?_ | refine And.intro (Nat.le_of_ble_eq_true rfl) ?_ | refine And.intro (Int.natCast_nonneg _) ?_ | refine fun (_ : Nat) => ?_ | refine Ord.go ?_ | refine Run.go rfl ?_ | refine Cont.go rfl ?_ | refine OrdP.go ?_)
    refine ⟨fun h => absurd rfl h, fun _ => ?_⟩
    repeat (first | refine OpsA.cons ?_ | refine OpsA.nil ?_ | refine OrdA.cons rfl ?_ | refine OrdA.nil ?_ | refine OrdW.cons rfl ?_ | refine OrdW.nil ?_ | refine OrdK.cons rfl ?_ | refine OrdK.nil ?_ | refine OrdN.one rfl ?_ | refine OrdN.nil ?_ | refine Run.textA C_ok (aopZ_sound C_ok) ?_ | refine And.intro rfl ?_ | refine And.intro (Nat.le_of_ble_eq_true rfl) ?_ | refine And.intro (Int.natCast_nonneg _) ?_ | refine fun (_ : Nat) => ?_ | refine Ord.go ?_ | refine Run.go rfl ?_ | refine Cont.go rfl ?_ | refine OrdP.go ?_)
    refine ⟨encR r, rfl, ?_⟩
    repeat (first | refine OpsA.cons ?_ | refine OpsA.nil ?_ | refine OrdA.cons rfl ?_ | refine OrdA.nil ?_ | refine OrdW.cons rfl ?_ | refine OrdW.nil ?_ | refine OrdK.cons rfl ?_ | refine OrdK.nil ?_ | refine OrdN.one rfl ?_ | refine OrdN.nil ?_ | refine Run.textA C_ok (aopZ_sound C_ok) ?_ | refine And.intro rfl ?_ | refine And.intro (Nat.le_of_ble_eq_true rfl) ?_ | refine And.intro (Int.natCast_nonneg _) ?_ | refine fun (_ : Nat) => ?_ | refine Ord.go ?_ | refine Run.go rfl ?_ | refine Cont.go rfl ?_ | refine OrdP.go ?_)
    refine ⟨fun h => absurd hr h, fun _ => ?_⟩
    repeat (first | refine OpsA.cons ?_ | refine OpsA.nil ?_ | refine OrdA.cons rfl ?_ | refine OrdA.nil ?_ | refine OrdW.cons rfl ?_ | refine OrdW.nil ?_ | refine OrdK.cons rfl ?_ | refine OrdK.nil ?_ | refine OrdN.one rfl ?_ | refine OrdN.nil ?_ | refine Run.textA C_ok (aopZ_sound C_ok) ?_ | refine And.intro rfl ?_ | refine And.intro (Nat.le_of_ble_eq_true rfl) ?_ | refine And.intro (Int.natCast_nonneg _) ?_ | refine fun (_ : Nat) => ?_ | refine Ord.go ?_ | refine Run.go rfl ?_ | refine Cont.go rfl ?_ | refine OrdP.go ?_)
    refine fun r2 hr2 => ?_
    obtain rfl := add1 hr2 (by omega)
    rw [← hE]
    repeat (first | refine OpsA.cons ?_ | refine OpsA.nil ?_ | refine OrdA.cons rfl ?_ | refine OrdA.nil ?_ | refine OrdW.cons rfl ?_ | refine OrdW.nil ?_ | refine OrdK.cons rfl ?_ | refine OrdK.nil ?_ | refine OrdN.one rfl ?_ | refine OrdN.nil ?_ | refine Run.textA C_ok (aopZ_sound C_ok) ?_ | refine And.intro rfl ?_ | refine And.intro (Nat.le_of_ble_eq_true rfl) ?_ | refine And.intro (Int.natCast_nonneg _) ?_ | refine fun (_ : Nat) => ?_ | refine Ord.go ?_ | refine Run.go rfl ?_ | refine Cont.go rfl ?_ | refine OrdP.go ?_)
    refine fun r hr => ?_
    obtain rfl := add1 hr (by omega)
    repeat (first | refine OpsA.cons ?_ | refine OpsA.nil ?_ | refine OrdA.cons rfl ?_ | refine OrdA.nil ?_ | refine OrdW.cons rfl ?_ | refine OrdW.nil ?_ | refine OrdK.cons rfl ?_ | refine OrdK.nil ?_ | refine OrdN.one rfl ?_ | refine OrdN.nil ?_ | refine Run.textA C_ok (aopZ_sound C_ok) ?_ | refine And.intro rfl ?_ | refine And.intro (Nat.le_of_ble_eq_true rfl) ?_ | refine And.intro (Int.natCast_nonneg _) ?_ | refine fun (_ : Nat) => ?_ | refine Ord.go ?_ | refine Run.go rfl ?_ | refine Cont.go rfl ?_ | refine OrdP.go ?_)
    refine Cont.lpW ?_
    refine ⟨61 - (i + 1), _, _, by omega, Weak.sel ?_ [0, 1] (by decide) ?_, ⟨i + 1, c + 1, countedB (joinP b) c, l2, gm2, es2, cl2, rfl, by omega, by omega, hC2, hT2, .inr ⟨hg.1, c, rfl⟩, rfl, rfl⟩⟩
    · repeat (first | exact trivial | refine And.intro (Sub.junk _) ?_ | refine And.intro (Sub.refl _) ?_ | refine And.intro (Sub.sl _ _ _ _ _) ?_ | refine And.intro (Sub.ptr _ _ _ _) ?_)
    · repeat (first | exact trivial | refine And.intro rfl ?_ | refine And.intro (SubO.refl _) ?_ | refine And.intro trivial ?_ | refine And.intro (SubO.cells (by repeat (first | exact trivial | refine And.intro (Sub.refl _) ?_ | refine And.intro (Sub.sl _ _ _ _ _) ?_ | refine And.intro (Sub.ptr _ _ _ _) ?_))) ?_)
  · repeat (first | refine OpsA.cons ?_ | refine OpsA.nil ?_ | refine OrdA.cons rfl ?_ | refine OrdA.nil ?_ | refine OrdW.cons rfl ?_ | refine OrdW.nil ?_ | refine OrdK.cons rfl ?_ | refine OrdK.nil ?_ | refine OrdN.one rfl ?_ | refine OrdN.nil ?_ | refine Run.textA C_ok (aopZ_sound C_ok) ?_ | refine And.intro rfl ?_ | refine And.intro (Nat.le_of_ble_eq_true rfl) ?_ | refine And.intro (Int.natCast_nonneg _) ?_ | refine fun (_ : Nat) => ?_ | refine Ord.go ?_ | refine Run.go rfl ?_ | refine Cont.go rfl ?_ | refine OrdP.go ?_)
    rename_i go
    refine CallZ.frz [2] [0, 1] (by kernel_rfl) [.ptr 0 gt 0, .int .i64 1, .int .i64 2, .ro 5 ([⟨1, joinP b, eS, 0, 2⟩].map encO) 1] ⟨.same _, .same _, .same _, .row 2 go 1 1 tO 5 _ rfl (by simp), trivial⟩ ?_
    refine ACall.sel [0, 1] (by decide) [.ptr 0 gt 0, .int .i64 1, .int .i64 2, .ro 5 ([⟨1, joinP b, eS, 0, 2⟩].map encO) 1] _ ⟨Sub.refl _, Sub.refl _, Sub.refl _, Sub.refl _, trivial⟩ (play_spec gt gm hT hC.inv 1 2 [⟨1, joinP b, eS, 0, 2⟩] 1 (by simp)) ?_
    intro r L' hq
    obtain ⟨gm2, es2, cl2, hT2, rfl, rfl⟩ := hq
    have e2 : playR l 1 2 (List.take 1 [⟨1, joinP b, eS, 0, 2⟩]) = _ := joined_bad hg l
    rw [e2] at hT2 ⊢
    refine ⟨.tuple [encP ⟨2, 10, 0, []⟩, encCs []], Sub.refl _, ?_⟩
    repeat (first | refine OpsA.cons ?_ | refine OpsA.nil ?_ | refine OrdA.cons rfl ?_ | refine OrdA.nil ?_ | refine OrdW.cons rfl ?_ | refine OrdW.nil ?_ | refine OrdK.cons rfl ?_ | refine OrdK.nil ?_ | refine OrdN.one rfl ?_ | refine OrdN.nil ?_ | refine Run.textA C_ok (aopZ_sound C_ok) ?_ | refine And.intro rfl ?_ | refine And.intro (Nat.le_of_ble_eq_true rfl) ?_ | refine And.intro (Int.natCast_nonneg _) ?_ | refine fun (_ : Nat) => ?_ | refine Ord.go ?_ | refine Run.go rfl ?_ | refine Cont.go rfl ?_ | refine OrdP.go ?_)
    refine CallZ.plain (ACallT.ok (ACall.ret (num_spec (joinE b)) ?_))
    repeat (first | refine OpsA.cons ?_ | refine OpsA.nil ?_ | refine OrdA.cons rfl ?_ | refine OrdA.nil ?_ | refine OrdW.cons rfl ?_ | refine OrdW.nil ?_ | refine OrdK.cons rfl ?_ | refine OrdK.nil ?_ | refine OrdN.one rfl ?_ | refine OrdN.nil ?_ | refine Run.textA C_ok (aopZ_sound C_ok) ?_ | refine And.intro rfl ?_ | refine And.intro (Nat.le_of_ble_eq_true rfl) ?_ | refine And.intro (Int.natCast_nonneg _) ?_ | refine fun (_ : Nat) => ?_ | refine Ord.go ?_ | refine Run.go rfl ?_ | refine Cont.go rfl ?_ | refine OrdP.go ?_)
    refine ⟨fun hj => ?_, fun hj => ?_⟩
    · repeat (first | refine OpsA.cons ?_ | refine OpsA.nil ?_ | refine OrdA.cons rfl ?_ | refine OrdA.nil ?_ | refine OrdW.cons rfl ?_ | refine OrdW.nil ?_ | refine OrdK.cons rfl ?_ | refine OrdK.nil ?_ | refine OrdN.one rfl ?_ | refine OrdN.nil ?_ | refine Run.textA C_ok (aopZ_sound C_ok) ?_ | refine And.intro rfl ?_ | refine And.intro (Nat.le_of_ble_eq_true rfl) ?_ | refine And.intro (Int.natCast_nonneg _) ?_ | refine fun (_ : Nat) => ?_ | refine Ord.go ?_ | refine Run.go rfl ?_ | refine Cont.go rfl ?_ | refine OrdP.go ?_)
      refine CallZ.plain (ACallT.ok (ACall.ret (num_spec 10) ?_))
      repeat (first | refine OpsA.cons ?_ | refine OpsA.nil ?_ | refine OrdA.cons rfl ?_ | refine OrdA.nil ?_ | refine OrdW.cons rfl ?_ | refine OrdW.nil ?_ | refine OrdK.cons rfl ?_ | refine OrdK.nil ?_ | refine OrdN.one rfl ?_ | refine OrdN.nil ?_ | refine Run.textA C_ok (aopZ_sound C_ok) ?_ | refine And.intro rfl ?_ | refine And.intro (Nat.le_of_ble_eq_true rfl) ?_ | refine And.intro (Int.natCast_nonneg _) ?_ | refine fun (_ : Nat) => ?_ | refine Ord.go ?_ | refine Run.go rfl ?_ | refine Cont.go rfl ?_ | refine OrdP.go ?_)
      refine ⟨fun h => absurd h (by decide), fun _ => ?_⟩
      repeat (first | refine OpsA.cons ?_ | refine OpsA.nil ?_ | refine OrdA.cons rfl ?_ | refine OrdA.nil ?_ | refine OrdW.cons rfl ?_ | refine OrdW.nil ?_ | refine OrdK.cons rfl ?_ | refine OrdK.nil ?_ | refine OrdN.one rfl ?_ | refine OrdN.nil ?_ | refine Run.textA C_ok (aopZ_sound C_ok) ?_ | refine And.intro rfl ?_ | refine And.intro (Nat.le_of_ble_eq_true rfl) ?_ | refine And.intro (Int.natCast_nonneg _) ?_ | refine fun (_ : Nat) => ?_ | refine Ord.go ?_ | refine Run.go rfl ?_ | refine Cont.go rfl ?_ | refine OrdP.go ?_)
      refine fun r hr => ?_
      obtain rfl := add1 hr (by omega)
      repeat (first | refine OpsA.cons ?_ | refine OpsA.nil ?_ | refine OrdA.cons rfl ?_ | refine OrdA.nil ?_ | refine OrdW.cons rfl ?_ | refine OrdW.nil ?_ | refine OrdK.cons rfl ?_ | refine OrdK.nil ?_ | refine OrdN.one rfl ?_ | refine OrdN.nil ?_ | refine Run.textA C_ok (aopZ_sound C_ok) ?_ | refine And.intro rfl ?_ | refine And.intro (Nat.le_of_ble_eq_true rfl) ?_ | refine And.intro (Int.natCast_nonneg _) ?_ | refine fun (_ : Nat) => ?_ | refine Ord.go ?_ | refine Run.go rfl ?_ | refine Cont.go rfl ?_ | refine OrdP.go ?_)
      refine Cont.lpW ?_
      refine ⟨61 - (i + 1), _, _, by omega, Weak.sel ?_ [0, 1] (by decide) ?_, ⟨i + 1, c, last, l, gm2, es2, cl2, rfl, by omega, by omega, hC, hT2, hl, rfl, rfl⟩⟩
      · repeat (first | exact trivial | refine And.intro (Sub.junk _) ?_ | refine And.intro (Sub.refl _) ?_ | refine And.intro (Sub.sl _ _ _ _ _) ?_ | refine And.intro (Sub.ptr _ _ _ _) ?_)
      · repeat (first | exact trivial | refine And.intro rfl ?_ | refine And.intro (SubO.refl _) ?_ | refine And.intro trivial ?_ | refine And.intro (SubO.cells (by repeat (first | exact trivial | refine And.intro (Sub.refl _) ?_ | refine And.intro (Sub.sl _ _ _ _ _) ?_ | refine And.intro (Sub.ptr _ _ _ _) ?_))) ?_)
    · have hj : ¬ joinE b ≠ 0 := hj
      have hf := countedE_bad hg (Classical.not_not.1 hj) c
      repeat (first | refine OpsA.cons ?_ | refine OpsA.nil ?_ | refine OrdA.cons rfl ?_ | refine OrdA.nil ?_ | refine OrdW.cons rfl ?_ | refine OrdW.nil ?_ | refine OrdK.cons rfl ?_ | refine OrdK.nil ?_ | refine OrdN.one rfl ?_ | refine OrdN.nil ?_ | refine Run.textA C_ok (aopZ_sound C_ok) ?_ | refine And.intro rfl ?_ | refine And.intro (Nat.le_of_ble_eq_true rfl) ?_ | refine And.intro (Int.natCast_nonneg _) ?_ | refine fun (_ : Nat) => ?_ | refine Ord.go ?_ | refine Run.go rfl ?_ | refine Cont.go rfl ?_ | refine OrdP.go ?_)
      refine CallZ.plain (ACallT.ok (ACall.ret (num_spec (countedE (joinP b) c)) ?_))
      repeat (first | refine OpsA.cons ?_ | refine OpsA.nil ?_ | refine OrdA.cons rfl ?_ | refine OrdA.nil ?_ | refine OrdW.cons rfl ?_ | refine OrdW.nil ?_ | refine OrdK.cons rfl ?_ | refine OrdK.nil ?_ | refine OrdN.one rfl ?_ | refine OrdN.nil ?_ | refine Run.textA C_ok (aopZ_sound C_ok) ?_ | refine And.intro rfl ?_ | refine And.intro (Nat.le_of_ble_eq_true rfl) ?_ | refine And.intro (Int.natCast_nonneg _) ?_ | refine fun (_ : Nat) => ?_ | refine Ord.go ?_ | refine Run.go rfl ?_ | refine Cont.go rfl ?_ | refine OrdP.go ?_)
      refine ⟨fun _ => ?_, fun h => absurd hf h⟩
      repeat (first | refine OpsA.cons ?_ | refine OpsA.nil ?_ | refine OrdA.cons rfl ?_ | refine OrdA.nil ?_ | refine OrdW.cons rfl ?_ | refine OrdW.nil ?_ | refine OrdK.cons rfl ?_ | refine OrdK.nil ?_ | refine OrdN.one rfl ?_ | refine OrdN.nil ?_ | refine Run.textA C_ok (aopZ_sound C_ok) ?_ | refine And.intro rfl ?_ | refine And.intro (Nat.le_of_ble_eq_true rfl) ?_ | refine And.intro (Int.natCast_nonneg _) ?_ | refine fun (_ : Nat) => ?_ | refine Ord.go ?_ | refine Run.go rfl ?_ | refine Cont.go rfl ?_ | refine OrdP.go ?_)
      refine CallZ.plain (ACallT.ok (ACall.ret (num_spec 10) ?_))
      repeat (first | refine OpsA.cons ?_ | refine OpsA.nil ?_ | refine OrdA.cons rfl ?_ | refine OrdA.nil ?_ | refine OrdW.cons rfl ?_ | refine OrdW.nil ?_ | refine OrdK.cons rfl ?_ | refine OrdK.nil ?_ | refine OrdN.one rfl ?_ | refine OrdN.nil ?_ | refine Run.textA C_ok (aopZ_sound C_ok) ?_ | refine And.intro rfl ?_ | refine And.intro (Nat.le_of_ble_eq_true rfl) ?_ | refine And.intro (Int.natCast_nonneg _) ?_ | refine fun (_ : Nat) => ?_ | refine Ord.go ?_ | refine Run.go rfl ?_ | refine Cont.go rfl ?_ | refine OrdP.go ?_)
      refine ⟨fun h => absurd h (by decide), fun _ => ?_⟩
      repeat (first | refine OpsA.cons ?_ | refine OpsA.nil ?_ | refine OrdA.cons rfl ?_ | refine OrdA.nil ?_ | refine OrdW.cons rfl ?_ | refine OrdW.nil ?_ | refine OrdK.cons rfl ?_ | refine OrdK.nil ?_ | refine OrdN.one rfl ?_ | refine OrdN.nil ?_ | refine Run.textA C_ok (aopZ_sound C_ok) ?_ | refine And.intro rfl ?_ | refine And.intro (Nat.le_of_ble_eq_true rfl) ?_ | refine And.intro (Int.natCast_nonneg _) ?_ | refine fun (_ : Nat) => ?_ | refine Ord.go ?_ | refine Run.go rfl ?_ | refine Cont.go rfl ?_ | refine OrdP.go ?_)
      refine fun r hr => ?_
      obtain rfl := add1 hr (by omega)
      repeat (first | refine OpsA.cons ?_ | refine OpsA.nil ?_ | refine OrdA.cons rfl ?_ | refine OrdA.nil ?_ | refine OrdW.cons rfl ?_ | refine OrdW.nil ?_ | refine OrdK.cons rfl ?_ | refine OrdK.nil ?_ | refine OrdN.one rfl ?_ | refine OrdN.nil ?_ | refine Run.textA C_ok (aopZ_sound C_ok) ?_ | refine And.intro rfl ?_ | refine And.intro (Nat.le_of_ble_eq_true rfl) ?_ | refine And.intro (Int.natCast_nonneg _) ?_ | refine fun (_ : Nat) => ?_ | refine Ord.go ?_ | refine Run.go rfl ?_ | refine Cont.go rfl ?_ | refine OrdP.go ?_)
      refine Cont.lpW ?_
      refine ⟨61 - (i + 1), _, _, by omega, Weak.sel ?_ [0, 1] (by decide) ?_, ⟨i + 1, c, last, l, gm2, es2, cl2, rfl, by omega, by omega, hC, hT2, hl, rfl, rfl⟩⟩
      · repeat (first | exact trivial | refine And.intro (Sub.junk _) ?_ | refine And.intro (Sub.refl _) ?_ | refine And.intro (Sub.sl _ _ _ _ _) ?_ | refine And.intro (Sub.ptr _ _ _ _) ?_)
      · repeat (first | exact trivial | refine And.intro rfl ?_ | refine And.intro (SubO.refl _) ?_ | refine And.intro trivial ?_ | refine And.intro (SubO.cells (by repeat (first | exact trivial | refine And.intro (Sub.refl _) ?_ | refine And.intro (Sub.sl _ _ _ _ _) ?_ | refine And.intro (Sub.ptr _ _ _ _) ?_))) ?_)
end Go.Proofs.YtiikjcdjgmlcgaaDoor.HBT
/- Proved: the law TreeCounted returns true for every input, and its argument reads behind the call as it read before; what the row lists is tied to the program's text. Conditions: none beside the card's own. -/
namespace Go.Proofs.YtiikjcdjgmlcgaaDoor.HBT
open Go Go.Proofs.YtiikjcdjgmlcgaaDoor.HB Go.Proofs.YtiikjcdjgmlcgaaDoor Go.ChangeShapes Go.WideShapes Go.ChangeAt Go.RowKit Go.Lib
set_option maxRecDepth 8000

theorem intc_arg {ys : List AV} (h : CellsOk Tryd.prog 3 ys) : ∃ n : Int, wrapC false ys = AV.int .i64 n := by
  obtain ⟨n, _, rfl⟩ := h.int_inv Tryd.underlying3
  exact ⟨n, rfl⟩
theorem ints_arg {x : AV} (h : ArgOk Tryd.prog 60 x) : ∃ ks n, n ≤ ks.length ∧ x = rdN ks n := by
  obtain ⟨ys, h, rfl⟩ := h
  obtain ⟨xss, n, hn, _, hx, rfl⟩ := h.slice_inv Tryd.underlying60
  have ha : aggT Tryd.prog 3 = false := by kernel_rfl
  have hc : Tryd.prog.cellsOf 3 = 1 := by kernel_rfl
  have ha2 : aggT Tryd.prog 60 = false := by kernel_rfl
  obtain ⟨l, hl, hm⟩ := map_told (f := wrapC false) (g := fun n : Int => AV.int .i64 n) (fun c hc => intc_arg (hx c hc))
  refine ⟨l, n, by omega, ?_⟩
  rw [ha, hc, ha2, hm]
  rfl

set_option maxRecDepth 100000 in
theorem counted_lifted (os : Os) (started : os.Started) (H : Type) (enc : TypeId × Value → H) :
    ReturnsInHanded {} Tryd.checked os 6 .any (fun w args => (Rows.treeCountedSpec.pre enc Tryd.prog Tryd.f6 [] false w args ∧ laidMetH Tryd.prog laid w) ∧ sizedMet enc Tryd.prog Tryd.f6 (OpenSpec.ofChange Rows.treeCountedSpec) false w args)
      (Rows.treeCountedSpec.post enc Tryd.prog Tryd.f6 false true false false) := by
  refine returns_and_shaped (C := Tryd.checked) (X := fun w _ => laidMetH Tryd.prog laid w) (fun _ _ _ hh h => h.of_heap hh) own started (by kernel_rfl) Tryd.func6
    (ChangeSpec.witness_shaped (enc := enc) (C := Tryd.checked) (os := os) (X := fun w _ => laidMetH Tryd.prog laid w) false (World.laidAll Tryd.prog os laid) #[.string ⟨#[]⟩, .slice none 0 0] 8 (World.laidAll_os _ _ _)
      (door_shape os _) (by kernel_rfl) (by kernel_rfl) (by kernel_rfl) (door_met os _)) ?_
  intro W base args ds gs before hval hW hL hs
  refine law_contract (C := C) (tb := 4) 8 laidOut (by kernel_rfl) (by kernel_rfl) (by kernel_rfl) Tryd.underlying4 ?_ ?_ ?_ (G_of hL hs) hval hW
  · intro W W' gs q _ h
    cases gs with
    | nil => exact h
    | cons => exact h.elim
  · intro ds gs hd hg
    match ds, gs, hd, hg with
    | [d1, d2], [], _, _ => exact ⟨rfl, rfl, rfl⟩
  · intro xs hxs
    have hxs : ArgsOk Tryd.prog [9, 60] xs := hxs
    cases hxs with
    | cons h1 h =>
      cases h with
      | cons h2 h =>
        cases h
        obtain ⟨b, _, rfl⟩ := str_arg h1
        obtain ⟨ks, n, hn, rfl⟩ := ints_arg h2
        exact lawCounted_spec b ks n hn

theorem counted_row : Rows.TreeCountedSaid :=
  OpenClaim.holds_of_wide 6 Tryd.f6 rfl rfl rfl rfl rfl rfl rfl ⟨rfl, rfl, rfl, rfl, rfl⟩ rfl rfl rfl rfl rfl (by kernel_rfl) Tryd.func6 (by kernel_rfl)
    (of_decide_eq_true (by kernel_rfl)) (by unfold Func.isWrapper; rw [if_neg (by decide +kernel)]; exact ⟨rfl, rfl⟩)
    (fun os started H enc _ => counted_lifted os started H enc)

theorem counted_holds : Rows.TreeCountedCardSaid :=
  Claim7.holds_tied_plain_at .later [] [.data, .data, .data, .data, .data, .pinned] true (true, "7ba753d5ce2c5d382ab5afb780aaaca041cebf7d31a744ebad3649adf3f8148e") true
    counted_row (fun _ h => by cases h) (by kernel_rfl) (fun _ h => by cases h) treeCounted_row_tie rfl ⟨rfl, rfl⟩ (by kernel_rfl) rfl
    (fun f fn hf hfn => by
      obtain rfl : f = 6 := Option.some.inj ((show Tryd.prog.funcNamed "herald/heraldlaw4.TreeCounted" = some 6 by kernel_rfl).symm.trans hf) |>.symm
      obtain rfl : fn = Tryd.f6 := (Option.some.inj (Tryd.func6.symm.trans hfn)).symm
      exact ⟨by kernel_rfl, fun j t ht => by
        rw [Tryd.params6] at ht
        have hm : t ∈ [9, 60] := by simpa using Array.mem_of_getElem? ht
        have hall : ([9, 60].all fun u => !Tryd.prog.wantsStandIn u) = true := by kernel_rfl
        exact (show Tryd.prog.wantsStandIn t = false by simpa using List.all_eq_true.1 hall t hm)⟩)
    (by kernel_rfl)

end Go.Proofs.YtiikjcdjgmlcgaaDoor.HBT
