/- The contract of the document's own order of places. -/
import Derived.Test.YtfohedaadncefaaDoorHbE3
import Derived.Test.YtfohedaadncefaaDoorHbD8
namespace Go.Proofs.YtfohedaadncefaaDoor.HBT
open Go Go.Proofs.YtfohedaadncefaaDoor.HB Go.RowKit
set_option maxRecDepth 8000

theorem refWeight_spec (c : UInt8) : FnSpec C 80 [.int .u8 c.toNat] [] (fun r L' => r = .int .i64 (rank c) ∧ L' = []) := by
  have hc := c.toNat_lt
  refine FnSpec.start C_ok Tryd.func80 rfl rfl Tryd.ntmps80 ?_
  repeat (first | refine Ops.go ?_ | refine And.intro rfl ?_ | refine And.intro (Nat.le_of_ble_eq_true rfl) ?_ | refine And.intro (Int.natCast_nonneg _) ?_ | refine fun (_ : Nat) => ?_ | refine Ord.go ?_ | refine Run.go rfl ?_ | refine Cont.go rfl ?_ | refine OrdP.go ?_)
  refine ⟨fun h => ?_, fun h => ?_⟩
  · have h : (c.toNat : Int) = 47 := h
    repeat (first | refine Ops.go ?_ | refine And.intro rfl ?_ | refine And.intro (Nat.le_of_ble_eq_true rfl) ?_ | refine And.intro (Int.natCast_nonneg _) ?_ | refine fun (_ : Nat) => ?_ | refine Ord.go ?_ | refine Run.go rfl ?_ | refine Cont.go rfl ?_ | refine OrdP.go ?_)
    exact ⟨_, [], FinOk.drop _ _, congrArg (AV.int .i64) (show (-1 : Int) = _ by unfold rank; rw [if_pos (by omega)]), rfl⟩
  · have h : ¬ (c.toNat : Int) = 47 := h
    repeat (first | refine Ops.go ?_ | refine And.intro rfl ?_ | refine And.intro (Nat.le_of_ble_eq_true rfl) ?_ | refine And.intro (Int.natCast_nonneg _) ?_ | refine fun (_ : Nat) => ?_ | refine Ord.go ?_ | refine Run.go rfl ?_ | refine Cont.go rfl ?_ | refine OrdP.go ?_)
    refine fun r hr => ?_
    have hr : r = (c.toNat : Int) := by rw [hr, IntKind.wrap_i64]; omega
    subst hr
    repeat (first | refine Ops.go ?_ | refine And.intro rfl ?_ | refine And.intro (Nat.le_of_ble_eq_true rfl) ?_ | refine And.intro (Int.natCast_nonneg _) ?_ | refine fun (_ : Nat) => ?_ | refine Ord.go ?_ | refine Run.go rfl ?_ | refine Cont.go rfl ?_ | refine OrdP.go ?_)
    exact ⟨_, [], FinOk.drop _ _, congrArg (AV.int .i64) (show (c.toNat : Int) = _ by unfold rank; rw [if_neg (by omega)]), rfl⟩

theorem refHolds_spec (d : ByteArray) (v : Int) : FnSpec C 56 [.str d, .int .i64 v] [] (fun r L' => r = .bool (decide (d.size ≤ 64 ∧ 0 ≤ v ∧ v ≤ 2147483647)) ∧ L' = []) := by
  refine FnSpec.start C_ok Tryd.func56 rfl rfl Tryd.ntmps56 ?_
  repeat (first | refine Ops.go ?_ | refine And.intro rfl ?_ | refine And.intro (Nat.le_of_ble_eq_true rfl) ?_ | refine And.intro (Int.natCast_nonneg _) ?_ | refine fun (_ : Nat) => ?_ | refine Ord.go ?_ | refine Run.go rfl ?_ | refine Cont.go rfl ?_ | refine OrdP.go ?_)
  refine ⟨fun h => ?_, fun h => ?_⟩
  case' refine_2 =>
    repeat (first | refine Ops.go ?_ | refine And.intro rfl ?_ | refine And.intro (Nat.le_of_ble_eq_true rfl) ?_ | refine And.intro (Int.natCast_nonneg _) ?_ | refine fun (_ : Nat) => ?_ | refine Ord.go ?_ | refine Run.go rfl ?_ | refine Cont.go rfl ?_ | refine OrdP.go ?_)
    exact ⟨_, [], FinOk.drop _ _, congrArg AV.bool (show false = _ by
      have h : ¬ (d.size : Int) ≤ 64 := h
      symm; rw [decide_eq_false_iff_not]; omega), rfl⟩
  have h1 : (d.size : Int) ≤ 64 := h
  repeat (first | refine Ops.go ?_ | refine And.intro rfl ?_ | refine And.intro (Nat.le_of_ble_eq_true rfl) ?_ | refine And.intro (Int.natCast_nonneg _) ?_ | refine fun (_ : Nat) => ?_ | refine Ord.go ?_ | refine Run.go rfl ?_ | refine Cont.go rfl ?_ | refine OrdP.go ?_)
  refine ⟨fun h => ?_, fun h => ?_⟩
  case' refine_2 =>
    repeat (first | refine Ops.go ?_ | refine And.intro rfl ?_ | refine And.intro (Nat.le_of_ble_eq_true rfl) ?_ | refine And.intro (Int.natCast_nonneg _) ?_ | refine fun (_ : Nat) => ?_ | refine Ord.go ?_ | refine Run.go rfl ?_ | refine Cont.go rfl ?_ | refine OrdP.go ?_)
    exact ⟨_, [], FinOk.drop _ _, congrArg AV.bool (show false = _ by
      have h : ¬ (0 : Int) ≤ v := h
      symm; rw [decide_eq_false_iff_not]; omega), rfl⟩
  have h2 : (0 : Int) ≤ v := h
  repeat (first | refine Ops.go ?_ | refine And.intro rfl ?_ | refine And.intro (Nat.le_of_ble_eq_true rfl) ?_ | refine And.intro (Int.natCast_nonneg _) ?_ | refine fun (_ : Nat) => ?_ | refine Ord.go ?_ | refine Run.go rfl ?_ | refine Cont.go rfl ?_ | refine OrdP.go ?_)
  refine ⟨fun h => ?_, fun h => ?_⟩
  case' refine_2 =>
    repeat (first | refine Ops.go ?_ | refine And.intro rfl ?_ | refine And.intro (Nat.le_of_ble_eq_true rfl) ?_ | refine And.intro (Int.natCast_nonneg _) ?_ | refine fun (_ : Nat) => ?_ | refine Ord.go ?_ | refine Run.go rfl ?_ | refine Cont.go rfl ?_ | refine OrdP.go ?_)
    exact ⟨_, [], FinOk.drop _ _, congrArg AV.bool (show false = _ by
      have h : ¬ v ≤ 2147483647 := h
      symm; rw [decide_eq_false_iff_not]; omega), rfl⟩
  have h3 : v ≤ 2147483647 := h
  repeat (first | refine Ops.go ?_ | refine And.intro rfl ?_ | refine And.intro (Nat.le_of_ble_eq_true rfl) ?_ | refine And.intro (Int.natCast_nonneg _) ?_ | refine fun (_ : Nat) => ?_ | refine Ord.go ?_ | refine Run.go rfl ?_ | refine Cont.go rfl ?_ | refine OrdP.go ?_)
  exact ⟨_, [], FinOk.drop _ _, congrArg AV.bool (show true = _ by symm; rw [decide_eq_true_iff]; omega), rfl⟩

theorem above_spec (s : ByteArray) : FnSpec C 59 [.str s] [] (fun r L' => r = .str (parentB s) ∧ L' = []) := by
  refine FnSpec.start C_ok Tryd.func59 rfl rfl Tryd.ntmps59 ?_
  repeat (first | refine Ops.go ?_ | refine And.intro rfl ?_ | refine And.intro (Nat.le_of_ble_eq_true rfl) ?_ | refine And.intro (Int.natCast_nonneg _) ?_ | refine fun (_ : Nat) => ?_ | refine Ord.go ?_ | refine Run.go rfl ?_ | refine Cont.go rfl ?_ | refine OrdP.go ?_)
  refine ACall.ret (refParent_spec s) ?_
  repeat (first | refine Ops.go ?_ | refine And.intro rfl ?_ | refine And.intro (Nat.le_of_ble_eq_true rfl) ?_ | refine And.intro (Int.natCast_nonneg _) ?_ | refine fun (_ : Nat) => ?_ | refine Ord.go ?_ | refine Run.go rfl ?_ | refine Cont.go rfl ?_ | refine OrdP.go ?_)
  exact ⟨_, [], FinOk.drop _ _, rfl, rfl⟩

end Go.Proofs.YtfohedaadncefaaDoor.HBT
/- The contract of the document's own order of places. -/
namespace Go.Proofs.YtfohedaadncefaaDoor.HBT
open Go Go.Proofs.YtfohedaadncefaaDoor.HB Go.RowKit
set_option maxRecDepth 8000

set_option maxHeartbeats 2000000 in
theorem refOrder_spec (a b : ByteArray) (ha : a.size ≤ 9223372036854775807) : FnSpec C 57 [.str a, .str b] [] (fun r L' => r = .int .i64 (orderB a b) ∧ L' = []) := by
  refine FnSpec.start C_ok Tryd.func57 rfl rfl Tryd.ntmps57 ?_
  have hla : a.data.toList.length = a.size := by rw [Array.length_toList]; rfl
  have hlb : b.data.toList.length = b.size := by rw [Array.length_toList]; rfl
  repeat (first | refine Ops.go ?_ | refine And.intro rfl ?_ | refine And.intro (Nat.le_of_ble_eq_true rfl) ?_ | refine And.intro (Int.natCast_nonneg _) ?_ | refine fun (_ : Nat) => ?_ | refine Ord.go ?_ | refine Run.go rfl ?_ | refine Cont.go rfl ?_ | refine OrdP.go ?_)
  refine Run.loop (fun k env L => ∃ i : Nat, k = a.size - i ∧ i ≤ a.size ∧ i ≤ b.size ∧ (orderB a b = orderL (a.data.toList.drop i) (b.data.toList.drop i)) ∧ env = [.str a, .str b, .junk, .junk, .junk, .int .i64 i, .junk, .junk, .junk, .junk, .junk, .junk, .junk, .junk, .junk, .junk, .junk, .junk, .junk, .junk, .junk, .junk, .junk, .junk, .junk, .junk, .junk, .junk, .junk, .junk, .junk, .junk, .junk, .junk, .junk, .junk, .junk, .junk, .junk, .junk, .junk, .junk, .junk, .junk] ∧ L = []) a.size [.str a, .str b, .junk, .junk, .junk, .int .i64 0, .junk, .junk, .junk, .junk, .junk, .junk, .junk, .junk, .junk, .junk, .junk, .junk, .junk, .junk, .junk, .junk, .junk, .junk, .junk, .junk, .junk, .junk, .junk, .junk, .junk, .junk, .junk, .junk, .junk, .junk, .junk, .junk, .junk, .junk, .junk, .junk, .junk, .junk] ?_ ⟨0, by omega, by omega, by omega, rfl, rfl, rfl⟩ ?_
  · repeat (first | exact trivial | refine ⟨.inl rfl, ?_⟩ | refine ⟨.inr rfl, ?_⟩)
  rintro k env L ⟨i, rfl, hi, hib, hP, rfl, rfl⟩
  have fin : (i = a.size ∨ i = b.size) → orderB a b = if (a.size : Int) < b.size then -1 else if (b.size : Int) < a.size then 1 else 0 := fun hnn => by
    rw [hP]
    rcases hnn with e | e
    · rw [List.drop_of_length_le (l := a.data.toList) (by omega)]
      by_cases hab : a.size < b.size
      · rw [byte_at b i (by omega), if_pos (by omega)]; rfl
      · rw [List.drop_of_length_le (l := b.data.toList) (by omega), if_neg (by omega), if_neg (by omega)]; rfl
    · rw [List.drop_of_length_le (l := b.data.toList) (by omega)]
      by_cases hab : b.size < a.size
      · rw [byte_at a i (by omega), if_neg (by omega), if_pos (by omega)]; rfl
      · rw [List.drop_of_length_le (l := a.data.toList) (by omega), if_neg (by omega), if_neg (by omega)]; rfl
  repeat (first | refine Ops.go ?_ | refine And.intro rfl ?_ | refine And.intro (Nat.le_of_ble_eq_true rfl) ?_ | refine And.intro (Int.natCast_nonneg _) ?_ | refine fun (_ : Nat) => ?_ | refine Ord.go ?_ | refine Run.go rfl ?_ | refine Cont.go rfl ?_ | refine OrdP.go ?_)
  refine ⟨fun h => ?_, fun h => ?_⟩
  · have h : (i : Int) < (a.size : Int) := h
    have hia : i < a.size := by omega
    repeat (first | refine Ops.go ?_ | refine And.intro rfl ?_ | refine And.intro (Nat.le_of_ble_eq_true rfl) ?_ | refine And.intro (Int.natCast_nonneg _) ?_ | refine fun (_ : Nat) => ?_ | refine Ord.go ?_ | refine Run.go rfl ?_ | refine Cont.go rfl ?_ | refine OrdP.go ?_)
    refine ⟨fun h => ?_, fun h => ?_⟩
    · have h : (i : Int) < (b.size : Int) := h
      have hib : i < b.size := by omega
      repeat (first | refine Ops.go ?_ | refine And.intro rfl ?_ | refine And.intro (Nat.le_of_ble_eq_true rfl) ?_ | refine And.intro (Int.natCast_nonneg _) ?_ | refine fun (_ : Nat) => ?_ | refine Ord.go ?_ | refine Run.go rfl ?_ | refine Cont.go rfl ?_ | refine OrdP.go ?_)
      refine ⟨hia, ?_⟩
      repeat (first | refine Ops.go ?_ | refine And.intro rfl ?_ | refine And.intro (Nat.le_of_ble_eq_true rfl) ?_ | refine And.intro (Int.natCast_nonneg _) ?_ | refine fun (_ : Nat) => ?_ | refine Ord.go ?_ | refine Run.go rfl ?_ | refine Cont.go rfl ?_ | refine OrdP.go ?_)
      refine ACall.ret (refWeight_spec a[i]) ?_
      repeat (first | refine Ops.go ?_ | refine And.intro rfl ?_ | refine And.intro (Nat.le_of_ble_eq_true rfl) ?_ | refine And.intro (Int.natCast_nonneg _) ?_ | refine fun (_ : Nat) => ?_ | refine Ord.go ?_ | refine Run.go rfl ?_ | refine Cont.go rfl ?_ | refine OrdP.go ?_)
      refine ⟨hib, ?_⟩
      repeat (first | refine Ops.go ?_ | refine And.intro rfl ?_ | refine And.intro (Nat.le_of_ble_eq_true rfl) ?_ | refine And.intro (Int.natCast_nonneg _) ?_ | refine fun (_ : Nat) => ?_ | refine Ord.go ?_ | refine Run.go rfl ?_ | refine Cont.go rfl ?_ | refine OrdP.go ?_)
      refine ACall.ret (refWeight_spec b[i]) ?_
      repeat (first | refine Ops.go ?_ | refine And.intro rfl ?_ | refine And.intro (Nat.le_of_ble_eq_true rfl) ?_ | refine And.intro (Int.natCast_nonneg _) ?_ | refine fun (_ : Nat) => ?_ | refine Ord.go ?_ | refine Run.go rfl ?_ | refine Cont.go rfl ?_ | refine OrdP.go ?_)
      have e1 := byte_at a i hia
      have e2 := byte_at b i hib
      refine ⟨fun hl => ?_, fun hl => ?_⟩
      · have hl : rank a[i] < rank b[i] := hl
        repeat (first | refine Ops.go ?_ | refine And.intro rfl ?_ | refine And.intro (Nat.le_of_ble_eq_true rfl) ?_ | refine And.intro (Int.natCast_nonneg _) ?_ | refine fun (_ : Nat) => ?_ | refine Ord.go ?_ | refine Run.go rfl ?_ | refine Cont.go rfl ?_ | refine OrdP.go ?_)
        exact ⟨_, [], FinOk.drop _ _, congrArg (AV.int .i64) (show (-1 : Int) = _ by rw [hP, e1, e2]; simp only [orderL, hl, if_true]), rfl⟩
      · have hl : ¬ rank a[i] < rank b[i] := hl
        repeat (first | refine Ops.go ?_ | refine And.intro rfl ?_ | refine And.intro (Nat.le_of_ble_eq_true rfl) ?_ | refine And.intro (Int.natCast_nonneg _) ?_ | refine fun (_ : Nat) => ?_ | refine Ord.go ?_ | refine Run.go rfl ?_ | refine Cont.go rfl ?_ | refine OrdP.go ?_)
        refine ⟨fun hg => ?_, fun hg => ?_⟩
        · have hg : rank b[i] < rank a[i] := hg
          repeat (first | refine Ops.go ?_ | refine And.intro rfl ?_ | refine And.intro (Nat.le_of_ble_eq_true rfl) ?_ | refine And.intro (Int.natCast_nonneg _) ?_ | refine fun (_ : Nat) => ?_ | refine Ord.go ?_ | refine Run.go rfl ?_ | refine Cont.go rfl ?_ | refine OrdP.go ?_)
          exact ⟨_, [], FinOk.drop _ _, congrArg (AV.int .i64) (show (1 : Int) = _ by rw [hP, e1, e2]; simp only [orderL, hl, hg, if_true, if_false]), rfl⟩
        · have hg : ¬ rank b[i] < rank a[i] := hg
          repeat (first | refine Ops.go ?_ | refine And.intro rfl ?_ | refine And.intro (Nat.le_of_ble_eq_true rfl) ?_ | refine And.intro (Int.natCast_nonneg _) ?_ | refine fun (_ : Nat) => ?_ | refine Ord.go ?_ | refine Run.go rfl ?_ | refine Cont.go rfl ?_ | refine OrdP.go ?_)
          refine fun r hr => ?_
          obtain rfl := add1 hr (by omega)
          repeat (first | refine Ops.go ?_ | refine And.intro rfl ?_ | refine And.intro (Nat.le_of_ble_eq_true rfl) ?_ | refine And.intro (Int.natCast_nonneg _) ?_ | refine fun (_ : Nat) => ?_ | refine Ord.go ?_ | refine Run.go rfl ?_ | refine Cont.go rfl ?_ | refine OrdP.go ?_)
          refine Cont.lp ?_
          refine ⟨a.size - (i + 1), [.str a, .str b, .junk, .junk, .junk, .int .i64 (i + 1 : Nat), .junk, .junk, .junk, .junk, .junk, .junk, .junk, .junk, .junk, .junk, .junk, .junk, .junk, .junk, .junk, .junk, .junk, .junk, .junk, .junk, .junk, .junk, .junk, .junk, .junk, .junk, .junk, .junk, .junk, .junk, .junk, .junk, .junk, .junk, .junk, .junk, .junk, .junk], 99, by omega, ?_, ⟨i + 1, rfl, by omega, by omega, ?_, rfl, rfl⟩⟩
          · repeat (first | exact trivial | refine ⟨.inl rfl, ?_⟩ | refine ⟨.inr rfl, ?_⟩)
          · rw [hP, e1, e2]; simp only [orderL, hl, hg, if_false]
    · have h : ¬ (i : Int) < (b.size : Int) := h
      have f := fin (.inr (by omega))
      repeat (first | refine Ops.go ?_ | refine And.intro rfl ?_ | refine And.intro (Nat.le_of_ble_eq_true rfl) ?_ | refine And.intro (Int.natCast_nonneg _) ?_ | refine fun (_ : Nat) => ?_ | refine Ord.go ?_ | refine Run.go rfl ?_ | refine Cont.go rfl ?_ | refine OrdP.go ?_)
      refine ⟨fun h => ?_, fun h => ?_⟩
      · have h : (a.size : Int) < (b.size : Int) := h
        repeat (first | refine Ops.go ?_ | refine And.intro rfl ?_ | refine And.intro (Nat.le_of_ble_eq_true rfl) ?_ | refine And.intro (Int.natCast_nonneg _) ?_ | refine fun (_ : Nat) => ?_ | refine Ord.go ?_ | refine Run.go rfl ?_ | refine Cont.go rfl ?_ | refine OrdP.go ?_)
        exact ⟨_, [], FinOk.drop _ _, congrArg (AV.int .i64) (show (-1 : Int) = _ by rw [f, if_pos h]), rfl⟩
      · have h : ¬ (a.size : Int) < (b.size : Int) := h
        repeat (first | refine Ops.go ?_ | refine And.intro rfl ?_ | refine And.intro (Nat.le_of_ble_eq_true rfl) ?_ | refine And.intro (Int.natCast_nonneg _) ?_ | refine fun (_ : Nat) => ?_ | refine Ord.go ?_ | refine Run.go rfl ?_ | refine Cont.go rfl ?_ | refine OrdP.go ?_)
        refine ⟨fun h2 => ?_, fun h2 => ?_⟩
        · have h2 : (b.size : Int) < (a.size : Int) := h2
          repeat (first | refine Ops.go ?_ | refine And.intro rfl ?_ | refine And.intro (Nat.le_of_ble_eq_true rfl) ?_ | refine And.intro (Int.natCast_nonneg _) ?_ | refine fun (_ : Nat) => ?_ | refine Ord.go ?_ | refine Run.go rfl ?_ | refine Cont.go rfl ?_ | refine OrdP.go ?_)
          exact ⟨_, [], FinOk.drop _ _, congrArg (AV.int .i64) (show (1 : Int) = _ by rw [f, if_neg h, if_pos h2]), rfl⟩
        · have h2 : ¬ (b.size : Int) < (a.size : Int) := h2
          repeat (first | refine Ops.go ?_ | refine And.intro rfl ?_ | refine And.intro (Nat.le_of_ble_eq_true rfl) ?_ | refine And.intro (Int.natCast_nonneg _) ?_ | refine fun (_ : Nat) => ?_ | refine Ord.go ?_ | refine Run.go rfl ?_ | refine Cont.go rfl ?_ | refine OrdP.go ?_)
          exact ⟨_, [], FinOk.drop _ _, congrArg (AV.int .i64) (show (0 : Int) = _ by rw [f, if_neg h, if_neg h2]), rfl⟩
  · have h : ¬ (i : Int) < (a.size : Int) := h
    have f := fin (.inl (by omega))
    repeat (first | refine Ops.go ?_ | refine And.intro rfl ?_ | refine And.intro (Nat.le_of_ble_eq_true rfl) ?_ | refine And.intro (Int.natCast_nonneg _) ?_ | refine fun (_ : Nat) => ?_ | refine Ord.go ?_ | refine Run.go rfl ?_ | refine Cont.go rfl ?_ | refine OrdP.go ?_)
    refine ⟨fun h => ?_, fun h => ?_⟩
    · have h : (a.size : Int) < (b.size : Int) := h
      repeat (first | refine Ops.go ?_ | refine And.intro rfl ?_ | refine And.intro (Nat.le_of_ble_eq_true rfl) ?_ | refine And.intro (Int.natCast_nonneg _) ?_ | refine fun (_ : Nat) => ?_ | refine Ord.go ?_ | refine Run.go rfl ?_ | refine Cont.go rfl ?_ | refine OrdP.go ?_)
      exact ⟨_, [], FinOk.drop _ _, congrArg (AV.int .i64) (show (-1 : Int) = _ by rw [f, if_pos h]), rfl⟩
    · have h : ¬ (a.size : Int) < (b.size : Int) := h
      repeat (first | refine Ops.go ?_ | refine And.intro rfl ?_ | refine And.intro (Nat.le_of_ble_eq_true rfl) ?_ | refine And.intro (Int.natCast_nonneg _) ?_ | refine fun (_ : Nat) => ?_ | refine Ord.go ?_ | refine Run.go rfl ?_ | refine Cont.go rfl ?_ | refine OrdP.go ?_)
      refine ⟨fun h2 => ?_, fun h2 => ?_⟩
      · have h2 : (b.size : Int) < (a.size : Int) := h2
        repeat (first | refine Ops.go ?_ | refine And.intro rfl ?_ | refine And.intro (Nat.le_of_ble_eq_true rfl) ?_ | refine And.intro (Int.natCast_nonneg _) ?_ | refine fun (_ : Nat) => ?_ | refine Ord.go ?_ | refine Run.go rfl ?_ | refine Cont.go rfl ?_ | refine OrdP.go ?_)
        exact ⟨_, [], FinOk.drop _ _, congrArg (AV.int .i64) (show (1 : Int) = _ by rw [f, if_neg h, if_pos h2]), rfl⟩
      · have h2 : ¬ (b.size : Int) < (a.size : Int) := h2
        repeat (first | refine Ops.go ?_ | refine And.intro rfl ?_ | refine And.intro (Nat.le_of_ble_eq_true rfl) ?_ | refine And.intro (Int.natCast_nonneg _) ?_ | refine fun (_ : Nat) => ?_ | refine Ord.go ?_ | refine Run.go rfl ?_ | refine Cont.go rfl ?_ | refine OrdP.go ?_)
        exact ⟨_, [], FinOk.drop _ _, congrArg (AV.int .i64) (show (0 : Int) = _ by rw [f, if_neg h, if_neg h2]), rfl⟩

end Go.Proofs.YtfohedaadncefaaDoor.HBT
/- The contract of the document's own Below. -/
namespace Go.Proofs.YtfohedaadncefaaDoor.HBT
open Go Go.Proofs.YtfohedaadncefaaDoor.HB Go.RowKit
set_option maxRecDepth 8000

/-- What Parse hands on, whatever it answers. -/
def namesR (s : ByteArray) : List ByteArray := if parseE s = 0 then namesOf s else []
def belowR (s above : ByteArray) : Prop := (namesR above).length < (namesR s).length ∧ (namesR s).take (namesR above).length = namesR above
noncomputable instance (s above : ByteArray) : Decidable (belowR s above) := Classical.propDecidable _

theorem namesR_le (s : ByteArray) : (namesR s).length ≤ 6 := by
  unfold namesR
  split
  · rename_i h; exact (names_ok h).1
  · simp
/-- What Parse hands on: nothing, or a row. -/
theorem parse_cases {s : ByteArray} {r : AV} {L' : AHeap} (hq : ParseR s r L') : ∃ e, (namesR s = [] ∧ r = .tuple [.nils, .int .i64 e] ∧ L' = []) ∨ (∃ g Cp, r = .tuple [.sl 0 g Cp (namesR s).length, .int .i64 e] ∧ L' = [(g, .row 9 1 Cp ((namesR s).map .str))]) := by
  rcases hq with ⟨h, rfl, rfl⟩ | ⟨h, hn, rfl, rfl⟩ | ⟨h, _, g, Cp, rfl, rfl⟩
  · exact ⟨_, .inl ⟨by unfold namesR; rw [if_neg h], rfl, rfl⟩⟩
  · exact ⟨_, .inl ⟨by unfold namesR; rw [if_pos h]; exact hn, rfl, rfl⟩⟩
  · have : namesR s = namesOf s := by unfold namesR; rw [if_pos h]
    exact ⟨_, .inr ⟨g, Cp, by rw [this], by rw [this]⟩⟩

set_option maxHeartbeats 1000000 in
theorem refBelow_spec (s above : ByteArray) : FnSpec C 79 [.str s, .str above] [] (fun r L' => r = .bool (decide (belowR s above)) ∧ L' = []) := by
  refine FnSpec.start C_ok Tryd.func79 rfl rfl Tryd.ntmps79 ?_
  have no : ¬ belowR s above → false = decide (belowR s above) := fun h => (decide_eq_false h).symm
  have yes : belowR s above → true = decide (belowR s above) := fun h => (decide_eq_true h).symm
  have hs6 := namesR_le s
  have ha6 := namesR_le above
  repeat (first | refine Ops.go ?_ | refine And.intro rfl ?_ | refine And.intro (Nat.le_of_ble_eq_true rfl) ?_ | refine And.intro (Int.natCast_nonneg _) ?_ | refine fun (_ : Nat) => ?_ | refine Ord.go ?_ | refine Run.go rfl ?_ | refine Cont.go rfl ?_ | refine OrdP.go ?_)
  refine ACall.pure _ (refParse_spec s) ?_
  intro r L' hq
  obtain ⟨e, ⟨hn, rfl, rfl⟩ | ⟨g, Cp, rfl, rfl⟩⟩ := parse_cases hq
  · refine ⟨_, Sub.refl _, ?_⟩
    have hb : ¬ belowR s above := fun h => by have := h.1; rw [hn] at this; cases this
    repeat (first | refine Ops.go ?_ | refine And.intro rfl ?_ | refine And.intro (Nat.le_of_ble_eq_true rfl) ?_ | refine And.intro (Int.natCast_nonneg _) ?_ | refine fun (_ : Nat) => ?_ | refine Ord.go ?_ | refine Run.go rfl ?_ | refine Cont.go rfl ?_ | refine OrdP.go ?_)
    refine ACall.pure _ (refParse_spec above) ?_
    intro r L' hq
    obtain ⟨e, ⟨hn2, rfl, rfl⟩ | ⟨g2, C2, rfl, rfl⟩⟩ := parse_cases hq
    · refine ⟨_, Sub.refl _, ?_⟩
      repeat (first | refine Ops.go ?_ | refine And.intro rfl ?_ | refine And.intro (Nat.le_of_ble_eq_true rfl) ?_ | refine And.intro (Int.natCast_nonneg _) ?_ | refine fun (_ : Nat) => ?_ | refine Ord.go ?_ | refine Run.go rfl ?_ | refine Cont.go rfl ?_ | refine OrdP.go ?_)
      refine ⟨fun _ => ?_, fun h => absurd (show (0 : Int) ≤ 0 by decide) h⟩
      repeat (first | refine Ops.go ?_ | refine And.intro rfl ?_ | refine And.intro (Nat.le_of_ble_eq_true rfl) ?_ | refine And.intro (Int.natCast_nonneg _) ?_ | refine fun (_ : Nat) => ?_ | refine Ord.go ?_ | refine Run.go rfl ?_ | refine Cont.go rfl ?_ | refine OrdP.go ?_)
      exact ⟨_, [], FinOk.drop _ _, congrArg AV.bool (no hb), rfl⟩
    · refine ⟨_, Sub.refl _, ?_⟩
      repeat (first | refine Ops.go ?_ | refine And.intro rfl ?_ | refine And.intro (Nat.le_of_ble_eq_true rfl) ?_ | refine And.intro (Int.natCast_nonneg _) ?_ | refine fun (_ : Nat) => ?_ | refine Ord.go ?_ | refine Run.go rfl ?_ | refine Cont.go rfl ?_ | refine OrdP.go ?_)
      refine ⟨fun _ => ?_, fun h => absurd (show (0 : Int) ≤ ((namesR above).length : Int) by omega) h⟩
      repeat (first | refine Ops.go ?_ | refine And.intro rfl ?_ | refine And.intro (Nat.le_of_ble_eq_true rfl) ?_ | refine And.intro (Int.natCast_nonneg _) ?_ | refine fun (_ : Nat) => ?_ | refine Ord.go ?_ | refine Run.go rfl ?_ | refine Cont.go rfl ?_ | refine OrdP.go ?_)
      exact ⟨_, [], FinOk.drop _ _, congrArg AV.bool (no hb), rfl⟩
  · refine ⟨_, Sub.refl _, ?_⟩
    repeat (first | refine Ops.go ?_ | refine And.intro rfl ?_ | refine And.intro (Nat.le_of_ble_eq_true rfl) ?_ | refine And.intro (Int.natCast_nonneg _) ?_ | refine fun (_ : Nat) => ?_ | refine Ord.go ?_ | refine Run.go rfl ?_ | refine Cont.go rfl ?_ | refine OrdP.go ?_)
    refine ACall.pure _ (refParse_spec above) ?_
    intro r L' hq
    obtain ⟨e2, ⟨hn2, rfl, rfl⟩ | ⟨g2, C2, rfl, rfl⟩⟩ := parse_cases hq
    · refine ⟨_, Sub.refl _, ?_⟩
      repeat (first | refine Ops.go ?_ | refine And.intro rfl ?_ | refine And.intro (Nat.le_of_ble_eq_true rfl) ?_ | refine And.intro (Int.natCast_nonneg _) ?_ | refine fun (_ : Nat) => ?_ | refine Ord.go ?_ | refine Run.go rfl ?_ | refine Cont.go rfl ?_ | refine OrdP.go ?_)
      refine ⟨fun h => ?_, fun h => ?_⟩
      · have h : ((namesR s).length : Int) ≤ 0 := h
        repeat (first | refine Ops.go ?_ | refine And.intro rfl ?_ | refine And.intro (Nat.le_of_ble_eq_true rfl) ?_ | refine And.intro (Int.natCast_nonneg _) ?_ | refine fun (_ : Nat) => ?_ | refine Ord.go ?_ | refine Run.go rfl ?_ | refine Cont.go rfl ?_ | refine OrdP.go ?_)
        exact ⟨_, [], FinOk.drop _ _, congrArg AV.bool (no (fun h2 => by have := h2.1; omega)), rfl⟩
      · have h : ¬ ((namesR s).length : Int) ≤ 0 := h
        have hb : belowR s above := ⟨by rw [hn2]; simp; omega, by rw [hn2]; rfl⟩
        repeat (first | refine Ops.go ?_ | refine And.intro rfl ?_ | refine And.intro (Nat.le_of_ble_eq_true rfl) ?_ | refine And.intro (Int.natCast_nonneg _) ?_ | refine fun (_ : Nat) => ?_ | refine Ord.go ?_ | refine Run.go rfl ?_ | refine Cont.go rfl ?_ | refine OrdP.go ?_)
        refine Run.loop (fun _ env L => env = [.junk, .junk, .junk, .junk, .junk, .junk, .junk, .nils, .junk, .int .i64 0, .junk, .junk, .junk, .junk, .junk, .junk, .junk, .junk, .junk, .junk, .junk, .junk, .junk, .junk, .junk, .junk, .junk, .junk, .junk, .junk, .junk, .junk, .junk, .junk, .junk, .junk, .junk, .junk, .junk, .junk] ∧ L = [(g, .row 9 1 Cp ((namesR s).map .str))]) 0 [.junk, .junk, .junk, .junk, .junk, .junk, .junk, .nils, .junk, .int .i64 0, .junk, .junk, .junk, .junk, .junk, .junk, .junk, .junk, .junk, .junk, .junk, .junk, .junk, .junk, .junk, .junk, .junk, .junk, .junk, .junk, .junk, .junk, .junk, .junk, .junk, .junk, .junk, .junk, .junk, .junk] ?_ ⟨rfl, rfl⟩ ?_
        · repeat (first | exact trivial | refine ⟨.inl rfl, ?_⟩ | refine ⟨.inr rfl, ?_⟩)
        rintro k env L ⟨rfl, rfl⟩
        repeat (first | refine Ops.go ?_ | refine And.intro rfl ?_ | refine And.intro (Nat.le_of_ble_eq_true rfl) ?_ | refine And.intro (Int.natCast_nonneg _) ?_ | refine fun (_ : Nat) => ?_ | refine Ord.go ?_ | refine Run.go rfl ?_ | refine Cont.go rfl ?_ | refine OrdP.go ?_)
        refine ⟨fun h => absurd h (by decide), fun _ => ?_⟩
        repeat (first | refine Ops.go ?_ | refine And.intro rfl ?_ | refine And.intro (Nat.le_of_ble_eq_true rfl) ?_ | refine And.intro (Int.natCast_nonneg _) ?_ | refine fun (_ : Nat) => ?_ | refine Ord.go ?_ | refine Run.go rfl ?_ | refine Cont.go rfl ?_ | refine OrdP.go ?_)
        exact ⟨_, [], FinOk.drop _ _, congrArg AV.bool (yes hb), rfl⟩
    · refine ⟨.tuple [.sl 1 g2 C2 (namesR above).length, .int .i64 e2], Sub.tuples (.two (.sl _ _ _ _ _) (.refl _)), ?_⟩
      repeat (first | refine Ops.go ?_ | refine And.intro rfl ?_ | refine And.intro (Nat.le_of_ble_eq_true rfl) ?_ | refine And.intro (Int.natCast_nonneg _) ?_ | refine fun (_ : Nat) => ?_ | refine Ord.go ?_ | refine Run.go rfl ?_ | refine Cont.go rfl ?_ | refine OrdP.go ?_)
      refine ⟨fun h => ?_, fun h => ?_⟩
      · have h : ((namesR s).length : Int) ≤ ((namesR above).length : Int) := h
        repeat (first | refine Ops.go ?_ | refine And.intro rfl ?_ | refine And.intro (Nat.le_of_ble_eq_true rfl) ?_ | refine And.intro (Int.natCast_nonneg _) ?_ | refine fun (_ : Nat) => ?_ | refine Ord.go ?_ | refine Run.go rfl ?_ | refine Cont.go rfl ?_ | refine OrdP.go ?_)
        exact ⟨_, [], FinOk.drop _ _, congrArg AV.bool (no (fun h2 => by have := h2.1; omega)), rfl⟩
      · have h : ¬ ((namesR s).length : Int) ≤ ((namesR above).length : Int) := h
        repeat (first | refine Ops.go ?_ | refine And.intro rfl ?_ | refine And.intro (Nat.le_of_ble_eq_true rfl) ?_ | refine And.intro (Int.natCast_nonneg _) ?_ | refine fun (_ : Nat) => ?_ | refine Ord.go ?_ | refine Run.go rfl ?_ | refine Cont.go rfl ?_ | refine OrdP.go ?_)
        refine Run.loop (fun k env L => ∃ i : Nat, k = (namesR above).length - i ∧ i ≤ (namesR above).length ∧ (∀ j < i, (namesR s)[j]? = (namesR above)[j]?) ∧ env = [.junk, .junk, .junk, .junk, .junk, .sl 0 g Cp (namesR s).length, .junk, .sl 1 g2 C2 (namesR above).length, .junk, .int .i64 i, .junk, .junk, .junk, .junk, .junk, .junk, .junk, .junk, .junk, .junk, .junk, .junk, .junk, .junk, .junk, .junk, .junk, .junk, .junk, .junk, .junk, .junk, .junk, .junk, .junk, .junk, .junk, .junk, .junk, .junk] ∧ L = [(g, .row 9 1 Cp ((namesR s).map .str)), (g2, .row 9 1 C2 ((namesR above).map .str))]) (namesR above).length
          [.junk, .junk, .junk, .junk, .junk, .sl 0 g Cp (namesR s).length, .junk, .sl 1 g2 C2 (namesR above).length, .junk, .int .i64 0, .junk, .junk, .junk, .junk, .junk, .junk, .junk, .junk, .junk, .junk, .junk, .junk, .junk, .junk, .junk, .junk, .junk, .junk, .junk, .junk, .junk, .junk, .junk, .junk, .junk, .junk, .junk, .junk, .junk, .junk] ?_ ⟨0, by omega, by omega, (fun j hj => absurd hj (Nat.not_lt_zero j)), rfl, rfl⟩ ?_
        · repeat (first | exact trivial | refine ⟨.inl rfl, ?_⟩ | refine ⟨.inr rfl, ?_⟩)
        rintro k env L ⟨i, rfl, hi, hP, rfl, rfl⟩
        repeat (first | refine Ops.go ?_ | refine And.intro rfl ?_ | refine And.intro (Nat.le_of_ble_eq_true rfl) ?_ | refine And.intro (Int.natCast_nonneg _) ?_ | refine fun (_ : Nat) => ?_ | refine Ord.go ?_ | refine Run.go rfl ?_ | refine Cont.go rfl ?_ | refine OrdP.go ?_)
        refine ⟨fun h2 => ?_, fun h2 => ?_⟩
        · have h2 : (i : Int) < ((namesR above).length : Int) := h2
          obtain ⟨x, ex⟩ : ∃ x, (namesR s)[i]? = some x := ⟨(namesR s)[i], List.getElem?_eq_getElem (by omega)⟩
          obtain ⟨y, ey⟩ : ∃ y, (namesR above)[i]? = some y := ⟨(namesR above)[i], List.getElem?_eq_getElem (by omega)⟩
          have ex' : ((namesR s).map AV.str)[i]? = some (.str x) := by rw [List.getElem?_map, ex]; rfl
          have ey' : ((namesR above).map AV.str)[i]? = some (.str y) := by rw [List.getElem?_map, ey]; rfl
          repeat (first | refine Ops.go ?_ | refine And.intro rfl ?_ | refine And.intro (Nat.le_of_ble_eq_true rfl) ?_ | refine And.intro (Int.natCast_nonneg _) ?_ | refine fun (_ : Nat) => ?_ | refine Ord.go ?_ | refine Run.go rfl ?_ | refine Cont.go rfl ?_ | refine OrdP.go ?_)
          refine Run.drawn true [0, 1, 2, 3, 4, 5, 6, 7, 8] (by kernel_rfl) ?_
          repeat (first | refine Ops.go ?_ | refine And.intro rfl ?_ | refine And.intro (Nat.le_of_ble_eq_true rfl) ?_ | refine And.intro (Int.natCast_nonneg _) ?_ | refine fun (_ : Nat) => ?_ | refine Ord.go ?_ | refine Run.go rfl ?_ | refine Cont.go rfl ?_ | refine OrdP.go ?_)
          refine ⟨show (i : Int) < ((namesR s).length : Int) by omega, ?_⟩
          repeat (first | refine Ops.go ?_ | refine And.intro rfl ?_ | refine And.intro (Nat.le_of_ble_eq_true rfl) ?_ | refine And.intro (Int.natCast_nonneg _) ?_ | refine fun (_ : Nat) => ?_ | refine Ord.go ?_ | refine Run.go rfl ?_ | refine Cont.go rfl ?_ | refine OrdP.go ?_)
          refine ⟨_, ex', ?_⟩
          repeat (first | refine Ops.go ?_ | refine And.intro rfl ?_ | refine And.intro (Nat.le_of_ble_eq_true rfl) ?_ | refine And.intro (Int.natCast_nonneg _) ?_ | refine fun (_ : Nat) => ?_ | refine Ord.go ?_ | refine Run.go rfl ?_ | refine Cont.go rfl ?_ | refine OrdP.go ?_)
          refine ⟨h2, ?_⟩
          repeat (first | refine Ops.go ?_ | refine And.intro rfl ?_ | refine And.intro (Nat.le_of_ble_eq_true rfl) ?_ | refine And.intro (Int.natCast_nonneg _) ?_ | refine fun (_ : Nat) => ?_ | refine Ord.go ?_ | refine Run.go rfl ?_ | refine Cont.go rfl ?_ | refine OrdP.go ?_)
          refine ⟨_, ey', ?_⟩
          repeat (first | refine Ops.go ?_ | refine And.intro rfl ?_ | refine And.intro (Nat.le_of_ble_eq_true rfl) ?_ | refine And.intro (Int.natCast_nonneg _) ?_ | refine fun (_ : Nat) => ?_ | refine Ord.go ?_ | refine Run.go rfl ?_ | refine Cont.go rfl ?_ | refine OrdP.go ?_)
          refine ⟨fun hne => ?_, fun heq => ?_⟩
          · have hne : x ≠ y := hne
            repeat (first | refine Ops.go ?_ | refine And.intro rfl ?_ | refine And.intro (Nat.le_of_ble_eq_true rfl) ?_ | refine And.intro (Int.natCast_nonneg _) ?_ | refine fun (_ : Nat) => ?_ | refine Ord.go ?_ | refine Run.go rfl ?_ | refine Cont.go rfl ?_ | refine OrdP.go ?_)
            exact ⟨_, [], FinOk.drop _ _, congrArg AV.bool (no (fun h3 => by
              have := congrArg (·[i]?) h3.2
              simp only [List.getElem?_take, show i < (namesR above).length by omega, if_true, ex, ey, Option.some.injEq] at this
              exact hne this)), rfl⟩
          · have heq : x = y := Classical.not_not.1 heq
            repeat (first | refine Ops.go ?_ | refine And.intro rfl ?_ | refine And.intro (Nat.le_of_ble_eq_true rfl) ?_ | refine And.intro (Int.natCast_nonneg _) ?_ | refine fun (_ : Nat) => ?_ | refine Ord.go ?_ | refine Run.go rfl ?_ | refine Cont.go rfl ?_ | refine OrdP.go ?_)
            refine fun r hr => ?_
            obtain rfl := add1 hr (by omega)
            repeat (first | refine Ops.go ?_ | refine And.intro rfl ?_ | refine And.intro (Nat.le_of_ble_eq_true rfl) ?_ | refine And.intro (Int.natCast_nonneg _) ?_ | refine fun (_ : Nat) => ?_ | refine Ord.go ?_ | refine Run.go rfl ?_ | refine Cont.go rfl ?_ | refine OrdP.go ?_)
            refine Cont.lp ?_
            refine ⟨(namesR above).length - (i + 1), [.junk, .junk, .junk, .junk, .junk, .sl 0 g Cp (namesR s).length, .junk, .sl 1 g2 C2 (namesR above).length, .junk, .int .i64 (i + 1 : Nat), .junk, .junk, .junk, .junk, .junk, .junk, .junk, .junk, .junk, .junk, .junk, .junk, .junk, .junk, .junk, .junk, .junk, .junk, .junk, .junk, .junk, .junk, .junk, .junk, .junk, .junk, .junk, .junk, .junk, .junk], 99, by omega, ?_, ⟨i + 1, rfl, by omega, ?_, rfl, rfl⟩⟩
            · repeat (first | exact trivial | refine ⟨.inl rfl, ?_⟩ | refine ⟨.inr rfl, ?_⟩)
            · intro j hj
              by_cases e : j = i
              · subst e; rw [ex, ey, heq]
              · exact hP j (by omega)
        · have h2 : ¬ (i : Int) < ((namesR above).length : Int) := h2
          have hb : belowR s above := ⟨by omega, by
            apply List.ext_getElem?
            intro j
            rw [List.getElem?_take]
            split
            · exact hP j (by omega)
            · rw [List.getElem?_eq_none (by omega)]⟩
          repeat (first | refine Ops.go ?_ | refine And.intro rfl ?_ | refine And.intro (Nat.le_of_ble_eq_true rfl) ?_ | refine And.intro (Int.natCast_nonneg _) ?_ | refine fun (_ : Nat) => ?_ | refine Ord.go ?_ | refine Run.go rfl ?_ | refine Cont.go rfl ?_ | refine OrdP.go ?_)
          exact ⟨_, [], FinOk.drop _ _, congrArg AV.bool (yes hb), rfl⟩

end Go.Proofs.YtfohedaadncefaaDoor.HBT
/- The contract of the document's own search of a place. -/
namespace Go.Proofs.YtfohedaadncefaaDoor.HBT
open Go Go.Proofs.YtfohedaadncefaaDoor.HB Go.RowKit
set_option maxRecDepth 8000

theorem find_spec (xs : List Sn) (n : Nat) (hn : n ≤ xs.length) (hm : n ≤ 1000) (p : ByteArray) : FnSpec C 58 [rdo xs n, .str p] [] (fun r L' => (∃ z : Int, r = .int .i64 z ∧ (z < 0 ↔ ¬ ∃ k x, k < n ∧ xs[k]? = some x ∧ x.p = p)) ∧ L' = []) := by
  refine FnSpec.start C_ok Tryd.func58 rfl rfl Tryd.ntmps58 ?_
  repeat (first | refine Ops.go ?_ | refine And.intro rfl ?_ | refine And.intro (Nat.le_of_ble_eq_true rfl) ?_ | refine And.intro (Int.natCast_nonneg _) ?_ | refine fun (_ : Nat) => ?_ | refine Ord.go ?_ | refine Run.go rfl ?_ | refine Cont.go rfl ?_ | refine OrdP.go ?_)
  refine Run.loop (fun k env L => ∃ i : Nat, k = n - i ∧ i ≤ n ∧ (∀ (j : Nat) (x : Sn), j < i → xs[j]? = some x → x.p ≠ p) ∧ env = [rdo xs n, .str p, .junk, .junk, .junk, .int .i64 i, .junk, .junk, .junk, .junk, .junk, .junk, .junk, .junk, .junk, .junk, .junk, .junk, .junk, .junk] ∧ L = []) n
    [rdo xs n, .str p, .junk, .junk, .junk, .int .i64 0, .junk, .junk, .junk, .junk, .junk, .junk, .junk, .junk, .junk, .junk, .junk, .junk, .junk, .junk] ?_ ⟨0, by omega, by omega, (fun j _ hj => absurd hj (Nat.not_lt_zero j)), rfl, rfl⟩ ?_
  · repeat (first | exact trivial | refine ⟨.inl rfl, ?_⟩ | refine ⟨.inr rfl, ?_⟩)
  rintro k env L ⟨i, rfl, hi, hP, rfl, rfl⟩
  repeat (first | refine Ops.go ?_ | refine And.intro rfl ?_ | refine And.intro (Nat.le_of_ble_eq_true rfl) ?_ | refine And.intro (Int.natCast_nonneg _) ?_ | refine fun (_ : Nat) => ?_ | refine Ord.go ?_ | refine Run.go rfl ?_ | refine Cont.go rfl ?_ | refine OrdP.go ?_)
  refine ⟨fun h => ?_, fun h => ?_⟩
  · have h : (i : Int) < (n : Int) := h
    obtain ⟨x, ex⟩ : ∃ x, xs[i]? = some x := ⟨xs[i], List.getElem?_eq_getElem (by omega)⟩
    repeat (first | refine Ops.go ?_ | refine And.intro rfl ?_ | refine And.intro (Nat.le_of_ble_eq_true rfl) ?_ | refine And.intro (Int.natCast_nonneg _) ?_ | refine fun (_ : Nat) => ?_ | refine Ord.go ?_ | refine Run.go rfl ?_ | refine Cont.go rfl ?_ | refine OrdP.go ?_)
    refine ⟨h, enc x, enc_at _ _ _ ex, ?_⟩
    repeat (first | refine Ops.go ?_ | refine And.intro rfl ?_ | refine And.intro (Nat.le_of_ble_eq_true rfl) ?_ | refine And.intro (Int.natCast_nonneg _) ?_ | refine fun (_ : Nat) => ?_ | refine Ord.go ?_ | refine Run.go rfl ?_ | refine Cont.go rfl ?_ | refine OrdP.go ?_)
    refine ⟨fun he => ?_, fun he => ?_⟩
    · have he : x.p = p := he
      repeat (first | refine Ops.go ?_ | refine And.intro rfl ?_ | refine And.intro (Nat.le_of_ble_eq_true rfl) ?_ | refine And.intro (Int.natCast_nonneg _) ?_ | refine fun (_ : Nat) => ?_ | refine Ord.go ?_ | refine Run.go rfl ?_ | refine Cont.go rfl ?_ | refine OrdP.go ?_)
      exact ⟨_, [], FinOk.drop _ _, ⟨(i : Int), rfl, by
        constructor
        · intro hlt; omega
        · intro hno; exact absurd ⟨i, x, by omega, ex, he⟩ hno⟩, rfl⟩
    · have he : ¬ x.p = p := he
      repeat (first | refine Ops.go ?_ | refine And.intro rfl ?_ | refine And.intro (Nat.le_of_ble_eq_true rfl) ?_ | refine And.intro (Int.natCast_nonneg _) ?_ | refine fun (_ : Nat) => ?_ | refine Ord.go ?_ | refine Run.go rfl ?_ | refine Cont.go rfl ?_ | refine OrdP.go ?_)
      refine fun r hr => ?_
      obtain rfl := add1 hr (by omega)
      repeat (first | refine Ops.go ?_ | refine And.intro rfl ?_ | refine And.intro (Nat.le_of_ble_eq_true rfl) ?_ | refine And.intro (Int.natCast_nonneg _) ?_ | refine fun (_ : Nat) => ?_ | refine Ord.go ?_ | refine Run.go rfl ?_ | refine Cont.go rfl ?_ | refine OrdP.go ?_)
      refine Cont.lp ?_
      refine ⟨n - (i + 1), [rdo xs n, .str p, .junk, .junk, .junk, .int .i64 (i + 1 : Nat), .junk, .junk, .junk, .junk, .junk, .junk, .junk, .junk, .junk, .junk, .junk, .junk, .junk, .junk], 99, by omega, ?_, ⟨i + 1, rfl, by omega, ?_, rfl, rfl⟩⟩
      · repeat (first | exact trivial | refine ⟨.inl rfl, ?_⟩ | refine ⟨.inr rfl, ?_⟩)
      · intro j y hj ey
        by_cases e : j = i
        · subst e; rw [ex] at ey; cases ey; exact he
        · exact hP j y (by omega) ey
  · have h : ¬ (i : Int) < (n : Int) := h
    repeat (first | refine Ops.go ?_ | refine And.intro rfl ?_ | refine And.intro (Nat.le_of_ble_eq_true rfl) ?_ | refine And.intro (Int.natCast_nonneg _) ?_ | refine fun (_ : Nat) => ?_ | refine Ord.go ?_ | refine Run.go rfl ?_ | refine Cont.go rfl ?_ | refine OrdP.go ?_)
    exact ⟨_, [], FinOk.drop _ _, ⟨(-1 : Int), rfl, by
      constructor
      · rintro _ ⟨k, x, h1, h2, h3⟩
        exact hP k x (by omega) h2 h3
      · intro _; decide⟩, rfl⟩

end Go.Proofs.YtfohedaadncefaaDoor.HBT
/- The contract of the document's own text 'in'. -/
namespace Go.Proofs.YtfohedaadncefaaDoor.HBT
open Go Go.Proofs.YtfohedaadncefaaDoor.HB Go.RowKit
set_option maxRecDepth 8000

def inP (kd : Int) (of_ p : ByteArray) : Prop := p = of_ ∨ (kd = 2 ∧ parentB p = of_) ∨ (kd ≠ 2 ∧ kd = 3 ∧ belowR p of_)
noncomputable instance (kd : Int) (of_ p : ByteArray) : Decidable (inP kd of_ p) := Classical.propDecidable _

theorem in_spec (kd : Int) (of_ p : ByteArray) : FnSpec C 55 [.int .i64 kd, .str of_, .str p] [] (fun r L' => r = .bool (decide (inP kd of_ p)) ∧ L' = []) := by
  have no : ¬ inP kd of_ p → false = decide (inP kd of_ p) := fun h => (decide_eq_false h).symm
  have yes : inP kd of_ p → true = decide (inP kd of_ p) := fun h => (decide_eq_true h).symm
  refine FnSpec.start C_ok Tryd.func55 rfl rfl Tryd.ntmps55 ?_
  repeat (first | refine Ops.go ?_ | refine And.intro rfl ?_ | refine And.intro (Nat.le_of_ble_eq_true rfl) ?_ | refine And.intro (Int.natCast_nonneg _) ?_ | refine fun (_ : Nat) => ?_ | refine Ord.go ?_ | refine Run.go rfl ?_ | refine Cont.go rfl ?_ | refine OrdP.go ?_)
  refine ⟨fun h => ?_, fun h => ?_⟩
  · have h : p = of_ := h
    repeat (first | refine Ops.go ?_ | refine And.intro rfl ?_ | refine And.intro (Nat.le_of_ble_eq_true rfl) ?_ | refine And.intro (Int.natCast_nonneg _) ?_ | refine fun (_ : Nat) => ?_ | refine Ord.go ?_ | refine Run.go rfl ?_ | refine Cont.go rfl ?_ | refine OrdP.go ?_)
    exact ⟨_, [], FinOk.drop _ _, congrArg AV.bool (yes (.inl h)), rfl⟩
  have h1 : ¬ p = of_ := h
  repeat (first | refine Ops.go ?_ | refine And.intro rfl ?_ | refine And.intro (Nat.le_of_ble_eq_true rfl) ?_ | refine And.intro (Int.natCast_nonneg _) ?_ | refine fun (_ : Nat) => ?_ | refine Ord.go ?_ | refine Run.go rfl ?_ | refine Cont.go rfl ?_ | refine OrdP.go ?_)
  refine ⟨fun h => ?_, fun h => ?_⟩
  · have h : kd = 2 := h
    repeat (first | refine Ops.go ?_ | refine And.intro rfl ?_ | refine And.intro (Nat.le_of_ble_eq_true rfl) ?_ | refine And.intro (Int.natCast_nonneg _) ?_ | refine fun (_ : Nat) => ?_ | refine Ord.go ?_ | refine Run.go rfl ?_ | refine Cont.go rfl ?_ | refine OrdP.go ?_)
    refine ACall.ret (above_spec p) ?_
    repeat (first | refine Ops.go ?_ | refine And.intro rfl ?_ | refine And.intro (Nat.le_of_ble_eq_true rfl) ?_ | refine And.intro (Int.natCast_nonneg _) ?_ | refine fun (_ : Nat) => ?_ | refine Ord.go ?_ | refine Run.go rfl ?_ | refine Cont.go rfl ?_ | refine OrdP.go ?_)
    refine ⟨fun h2 => ?_, fun h2 => ?_⟩
    · repeat (first | refine Ops.go ?_ | refine And.intro rfl ?_ | refine And.intro (Nat.le_of_ble_eq_true rfl) ?_ | refine And.intro (Int.natCast_nonneg _) ?_ | refine fun (_ : Nat) => ?_ | refine Ord.go ?_ | refine Run.go rfl ?_ | refine Cont.go rfl ?_ | refine OrdP.go ?_)
      exact ⟨_, [], FinOk.drop _ _, congrArg AV.bool (yes (.inr (.inl ⟨h, h2⟩))), rfl⟩
    · repeat (first | refine Ops.go ?_ | refine And.intro rfl ?_ | refine And.intro (Nat.le_of_ble_eq_true rfl) ?_ | refine And.intro (Int.natCast_nonneg _) ?_ | refine fun (_ : Nat) => ?_ | refine Ord.go ?_ | refine Run.go rfl ?_ | refine Cont.go rfl ?_ | refine OrdP.go ?_)
      exact ⟨_, [], FinOk.drop _ _, congrArg AV.bool (no (by
        rintro (h3 | ⟨_, h3⟩ | ⟨h3, _⟩)
        · exact h1 h3
        · exact h2 h3
        · exact h3 h)), rfl⟩
  have h2 : ¬ kd = 2 := h
  repeat (first | refine Ops.go ?_ | refine And.intro rfl ?_ | refine And.intro (Nat.le_of_ble_eq_true rfl) ?_ | refine And.intro (Int.natCast_nonneg _) ?_ | refine fun (_ : Nat) => ?_ | refine Ord.go ?_ | refine Run.go rfl ?_ | refine Cont.go rfl ?_ | refine OrdP.go ?_)
  refine ⟨fun h => ?_, fun h => ?_⟩
  · have h : kd = 3 := h
    repeat (first | refine Ops.go ?_ | refine And.intro rfl ?_ | refine And.intro (Nat.le_of_ble_eq_true rfl) ?_ | refine And.intro (Int.natCast_nonneg _) ?_ | refine fun (_ : Nat) => ?_ | refine Ord.go ?_ | refine Run.go rfl ?_ | refine Cont.go rfl ?_ | refine OrdP.go ?_)
    refine ACall.ret (refBelow_spec p of_) ?_
    repeat (first | refine Ops.go ?_ | refine And.intro rfl ?_ | refine And.intro (Nat.le_of_ble_eq_true rfl) ?_ | refine And.intro (Int.natCast_nonneg _) ?_ | refine fun (_ : Nat) => ?_ | refine Ord.go ?_ | refine Run.go rfl ?_ | refine Cont.go rfl ?_ | refine OrdP.go ?_)
    exact ⟨_, [], FinOk.drop _ _, congrArg AV.bool (show decide (belowR p of_) = _ by
      rw [Bool.eq_iff_iff, decide_eq_true_iff, decide_eq_true_iff]
      constructor
      · intro h3; exact .inr (.inr ⟨h2, h, h3⟩)
      · rintro (h3 | ⟨h3, _⟩ | ⟨_, _, h3⟩)
        · exact absurd h3 h1
        · exact absurd h3 h2
        · exact h3), rfl⟩
  · have h : ¬ kd = 3 := h
    repeat (first | refine Ops.go ?_ | refine And.intro rfl ?_ | refine And.intro (Nat.le_of_ble_eq_true rfl) ?_ | refine And.intro (Int.natCast_nonneg _) ?_ | refine fun (_ : Nat) => ?_ | refine Ord.go ?_ | refine Run.go rfl ?_ | refine Cont.go rfl ?_ | refine OrdP.go ?_)
    exact ⟨_, [], FinOk.drop _ _, congrArg AV.bool (no (by
      rintro (h3 | ⟨h3, _⟩ | ⟨_, h3, _⟩)
      · exact h1 h3
      · exact h2 h3
      · exact h h3)), rfl⟩

end Go.Proofs.YtfohedaadncefaaDoor.HBT
/- The contract of the document's own text 'Check'. -/
namespace Go.Proofs.YtfohedaadncefaaDoor.HBT
open Go Go.Proofs.YtfohedaadncefaaDoor.HB Go.RowKit
set_option maxRecDepth 8000

def refNode (pl : ByteArray) (kd : Int) (xs : List Sn) (n i : Nat) (x : Sn) : Prop :=
  parseE x.p = 0 ∧ inP kd pl x.p ∧ (x.d.size ≤ 64 ∧ 0 ≤ x.v ∧ x.v ≤ 2147483647) ∧ (i ≠ 0 → ∃ y, xs[i - 1]? = some y ∧ orderB y.p x.p < 0) ∧ (kd = 2 → bare x) ∧ (x.p ≠ pl → ∃ k z, k < n ∧ xs[k]? = some z ∧ z.p = parentB x.p)
/-- May the shot be, as the document says? -/
def refP (st : Int) (pl : ByteArray) (kd : Int) (xs : List Sn) (n : Nat) : Prop :=
  (0 ≤ st ∧ st ≤ 2147483647) ∧ parseE pl = 0 ∧ (kd = 1 ∨ kd = 2 ∨ kd = 3) ∧ n ≤ 64 ∧ ¬ (n = 0 ∧ pl = slash) ∧ ∀ (i : Nat) (x : Sn), i < n → xs[i]? = some x → refNode pl kd xs n i x
noncomputable instance (st : Int) (pl : ByteArray) (kd : Int) (xs : List Sn) (n : Nat) : Decidable (refP st pl kd xs n) := Classical.propDecidable _

set_option maxHeartbeats 4000000 in
theorem refCheck_spec (st : Int) (pl : ByteArray) (kd : Int) (xs : List Sn) (n : Nat) (hn : n ≤ xs.length) (hps : ∀ x ∈ xs, x.p.size ≤ 9223372036854775807) :
    FnSpec C 27 [shot st pl kd (rdo xs n)] [] (fun r L' => r = .int .i64 (if refP st pl kd xs n then 0 else 51) ∧ L' = []) := by
  have no : ¬ refP st pl kd xs n → (51 : Int) = (if refP st pl kd xs n then 0 else 51) := fun h => by rw [if_neg h]
  refine FnSpec.start C_ok Tryd.func27 rfl rfl Tryd.ntmps27 ?_
  repeat (first | refine Ops.go ?_ | refine And.intro rfl ?_ | refine And.intro (Nat.le_of_ble_eq_true rfl) ?_ | refine And.intro (Int.natCast_nonneg _) ?_ | refine Ord.go ?_ | refine Run.go rfl ?_ | refine Cont.go rfl ?_ | refine OrdP.go ?_)
  refine fun g1 => ?_
  repeat (first | refine Ops.go ?_ | refine And.intro rfl ?_ | refine And.intro (Nat.le_of_ble_eq_true rfl) ?_ | refine And.intro (Int.natCast_nonneg _) ?_ | refine fun (_ : Nat) => ?_ | refine Ord.go ?_ | refine Run.go rfl ?_ | refine Cont.go rfl ?_ | refine OrdP.go ?_)
  refine ⟨fun h => ?_, fun h => ?_⟩
  · have h : st < 0 := h
    repeat (first | refine Ops.go ?_ | refine And.intro rfl ?_ | refine And.intro (Nat.le_of_ble_eq_true rfl) ?_ | refine And.intro (Int.natCast_nonneg _) ?_ | refine fun (_ : Nat) => ?_ | refine Ord.go ?_ | refine Run.go rfl ?_ | refine Cont.go rfl ?_ | refine OrdP.go ?_)
    exact ⟨_, [], FinOk.drop _ _, congrArg (AV.int .i64) (no (fun h2 => by have := h2.1; omega)), rfl⟩
  have h1 : ¬ st < 0 := h
  repeat (first | refine Ops.go ?_ | refine And.intro rfl ?_ | refine And.intro (Nat.le_of_ble_eq_true rfl) ?_ | refine And.intro (Int.natCast_nonneg _) ?_ | refine fun (_ : Nat) => ?_ | refine Ord.go ?_ | refine Run.go rfl ?_ | refine Cont.go rfl ?_ | refine OrdP.go ?_)
  refine ⟨fun h => ?_, fun h => ?_⟩
  · have h : (2147483647 : Int) < st := h
    repeat (first | refine Ops.go ?_ | refine And.intro rfl ?_ | refine And.intro (Nat.le_of_ble_eq_true rfl) ?_ | refine And.intro (Int.natCast_nonneg _) ?_ | refine fun (_ : Nat) => ?_ | refine Ord.go ?_ | refine Run.go rfl ?_ | refine Cont.go rfl ?_ | refine OrdP.go ?_)
    exact ⟨_, [], FinOk.drop _ _, congrArg (AV.int .i64) (no (fun h2 => by have := h2.1; omega)), rfl⟩
  have h2 : ¬ (2147483647 : Int) < st := h
  repeat (first | refine Ops.go ?_ | refine And.intro rfl ?_ | refine And.intro (Nat.le_of_ble_eq_true rfl) ?_ | refine And.intro (Int.natCast_nonneg _) ?_ | refine fun (_ : Nat) => ?_ | refine Ord.go ?_ | refine Run.go rfl ?_ | refine Cont.go rfl ?_ | refine OrdP.go ?_)
  cases hp : decide (parseE pl = 0) with
  | false =>
    have c1 := refIs_spec pl
    rw [hp] at c1
    refine ACall.ret c1 ?_
    repeat (first | refine Ops.go ?_ | refine And.intro rfl ?_ | refine And.intro (Nat.le_of_ble_eq_true rfl) ?_ | refine And.intro (Int.natCast_nonneg _) ?_ | refine fun (_ : Nat) => ?_ | refine Ord.go ?_ | refine Run.go rfl ?_ | refine Cont.go rfl ?_ | refine OrdP.go ?_)
    exact ⟨_, [], FinOk.drop _ _, congrArg (AV.int .i64) (no (fun h2 => absurd h2.2.1 (of_decide_eq_false hp))), rfl⟩
  | true =>
    have c1 := refIs_spec pl
    rw [hp] at c1
    refine ACall.ret c1 ?_
    repeat (first | refine Ops.go ?_ | refine And.intro rfl ?_ | refine And.intro (Nat.le_of_ble_eq_true rfl) ?_ | refine And.intro (Int.natCast_nonneg _) ?_ | refine fun (_ : Nat) => ?_ | refine Ord.go ?_ | refine Run.go rfl ?_ | refine Cont.go rfl ?_ | refine OrdP.go ?_)
    refine ⟨fun h => ?_, fun h => ?_⟩
    · have h : kd < 1 := h
      repeat (first | refine Ops.go ?_ | refine And.intro rfl ?_ | refine And.intro (Nat.le_of_ble_eq_true rfl) ?_ | refine And.intro (Int.natCast_nonneg _) ?_ | refine fun (_ : Nat) => ?_ | refine Ord.go ?_ | refine Run.go rfl ?_ | refine Cont.go rfl ?_ | refine OrdP.go ?_)
      exact ⟨_, [], FinOk.drop _ _, congrArg (AV.int .i64) (no (fun h2 => by have := h2.2.2.1; omega)), rfl⟩
    have h3 : ¬ kd < 1 := h
    repeat (first | refine Ops.go ?_ | refine And.intro rfl ?_ | refine And.intro (Nat.le_of_ble_eq_true rfl) ?_ | refine And.intro (Int.natCast_nonneg _) ?_ | refine fun (_ : Nat) => ?_ | refine Ord.go ?_ | refine Run.go rfl ?_ | refine Cont.go rfl ?_ | refine OrdP.go ?_)
    refine ⟨fun h => ?_, fun h => ?_⟩
    · have h : 3 < kd := h
      repeat (first | refine Ops.go ?_ | refine And.intro rfl ?_ | refine And.intro (Nat.le_of_ble_eq_true rfl) ?_ | refine And.intro (Int.natCast_nonneg _) ?_ | refine fun (_ : Nat) => ?_ | refine Ord.go ?_ | refine Run.go rfl ?_ | refine Cont.go rfl ?_ | refine OrdP.go ?_)
      exact ⟨_, [], FinOk.drop _ _, congrArg (AV.int .i64) (no (fun h2 => by have := h2.2.2.1; omega)), rfl⟩
    have h4 : ¬ 3 < kd := h
    repeat (first | refine Ops.go ?_ | refine And.intro rfl ?_ | refine And.intro (Nat.le_of_ble_eq_true rfl) ?_ | refine And.intro (Int.natCast_nonneg _) ?_ | refine fun (_ : Nat) => ?_ | refine Ord.go ?_ | refine Run.go rfl ?_ | refine Cont.go rfl ?_ | refine OrdP.go ?_)
    refine ⟨fun h => ?_, fun h => ?_⟩
    · have h : (64 : Int) < (n : Int) := h
      repeat (first | refine Ops.go ?_ | refine And.intro rfl ?_ | refine And.intro (Nat.le_of_ble_eq_true rfl) ?_ | refine And.intro (Int.natCast_nonneg _) ?_ | refine fun (_ : Nat) => ?_ | refine Ord.go ?_ | refine Run.go rfl ?_ | refine Cont.go rfl ?_ | refine OrdP.go ?_)
      exact ⟨_, [], FinOk.drop _ _, congrArg (AV.int .i64) (no (fun h2 => by have := h2.2.2.2.1; omega)), rfl⟩
    have h5 : ¬ (64 : Int) < (n : Int) := h
    repeat (first | refine Ops.go ?_ | refine And.intro rfl ?_ | refine And.intro (Nat.le_of_ble_eq_true rfl) ?_ | refine And.intro (Int.natCast_nonneg _) ?_ | refine fun (_ : Nat) => ?_ | refine Ord.go ?_ | refine Run.go rfl ?_ | refine Cont.go rfl ?_ | refine OrdP.go ?_)
    refine ⟨fun h => ?_, fun h => ?_⟩
    · have hn0 : (n : Int) = 0 := h
      have hn0 : n = 0 := by omega
      repeat (first | refine Ops.go ?_ | refine And.intro rfl ?_ | refine And.intro (Nat.le_of_ble_eq_true rfl) ?_ | refine And.intro (Int.natCast_nonneg _) ?_ | refine fun (_ : Nat) => ?_ | refine Ord.go ?_ | refine Run.go rfl ?_ | refine Cont.go rfl ?_ | refine OrdP.go ?_)
      refine ⟨fun hpl => ?_, fun hpl => ?_⟩
      · have hpl : pl = slash := hpl
        repeat (first | refine Ops.go ?_ | refine And.intro rfl ?_ | refine And.intro (Nat.le_of_ble_eq_true rfl) ?_ | refine And.intro (Int.natCast_nonneg _) ?_ | refine fun (_ : Nat) => ?_ | refine Ord.go ?_ | refine Run.go rfl ?_ | refine Cont.go rfl ?_ | refine OrdP.go ?_)
        exact ⟨_, [], FinOk.drop _ _, congrArg (AV.int .i64) (no (fun h2 => h2.2.2.2.2.1 ⟨by omega, hpl⟩)), rfl⟩
      have hne : ¬ (n = 0 ∧ pl = slash) := fun h => hpl h.2
      repeat (first | refine Ops.go ?_ | refine And.intro rfl ?_ | refine And.intro (Nat.le_of_ble_eq_true rfl) ?_ | refine And.intro (Int.natCast_nonneg _) ?_ | refine fun (_ : Nat) => ?_ | refine Ord.go ?_ | refine Run.go rfl ?_ | refine Cont.go rfl ?_ | refine OrdP.go ?_)
      refine Run.loop (fun k env L => env = [.junk, .ptr 0 g1 0, .junk, .int .i64 0, .junk, .junk, .junk, .junk, .junk, .junk, .junk, .junk, .junk, .junk, .junk, .junk, .junk, .junk, .junk, .junk, .junk, .junk, .junk, .junk, .junk, .junk, .junk, .junk, .junk, .junk, .junk, .junk, .junk, .junk, .junk, .junk, .junk, .junk, .junk, .junk, .junk, .junk, .junk, .junk, .junk, .junk, .junk, .junk, .junk, .junk, .junk, .junk, .junk, .junk, .junk, .junk, .junk, .junk, .junk, .junk, .junk, .junk, .junk, .junk, .junk, .junk, .junk, .junk, .junk, .junk, .junk, .junk, .junk, .junk, .junk, .junk, .junk, .junk, .junk, .junk, .junk, .junk, .junk, .junk, .junk, .junk, .junk, .junk, .junk, .junk, .junk, .junk, .junk, .junk, .junk, .junk, .junk, .junk, .junk, .junk, .junk, .junk, .junk, .junk, .junk, .junk, .junk, .junk, .junk, .junk, .junk, .junk, .junk, .junk, .junk, .junk, .junk, .junk, .junk, .junk] ∧ L = [(g1, .cells 24 [.int .i64 st, .str pl, .int .i64 kd, rdo xs n])]) 0
        [.junk, .ptr 0 g1 0, .junk, .int .i64 0, .junk, .junk, .junk, .junk, .junk, .junk, .junk, .junk, .junk, .junk, .junk, .junk, .junk, .junk, .junk, .junk, .junk, .junk, .junk, .junk, .junk, .junk, .junk, .junk, .junk, .junk, .junk, .junk, .junk, .junk, .junk, .junk, .junk, .junk, .junk, .junk, .junk, .junk, .junk, .junk, .junk, .junk, .junk, .junk, .junk, .junk, .junk, .junk, .junk, .junk, .junk, .junk, .junk, .junk, .junk, .junk, .junk, .junk, .junk, .junk, .junk, .junk, .junk, .junk, .junk, .junk, .junk, .junk, .junk, .junk, .junk, .junk, .junk, .junk, .junk, .junk, .junk, .junk, .junk, .junk, .junk, .junk, .junk, .junk, .junk, .junk, .junk, .junk, .junk, .junk, .junk, .junk, .junk, .junk, .junk, .junk, .junk, .junk, .junk, .junk, .junk, .junk, .junk, .junk, .junk, .junk, .junk, .junk, .junk, .junk, .junk, .junk, .junk, .junk, .junk, .junk] ?_ ⟨rfl, rfl⟩ ?_
      · repeat (first | exact trivial | refine ⟨.inl rfl, ?_⟩ | refine ⟨.inr rfl, ?_⟩)
      rintro k env L ⟨rfl, rfl⟩
      repeat (first | refine Ops.go ?_ | refine And.intro rfl ?_ | refine And.intro (Nat.le_of_ble_eq_true rfl) ?_ | refine And.intro (Int.natCast_nonneg _) ?_ | refine fun (_ : Nat) => ?_ | refine Ord.go ?_ | refine Run.go rfl ?_ | refine Cont.go rfl ?_ | refine OrdP.go ?_)
      refine ⟨fun h => absurd (show (0 : Int) < (n : Int) from h) (by omega), fun _ => ?_⟩
      repeat (first | refine Ops.go ?_ | refine And.intro rfl ?_ | refine And.intro (Nat.le_of_ble_eq_true rfl) ?_ | refine And.intro (Int.natCast_nonneg _) ?_ | refine fun (_ : Nat) => ?_ | refine Ord.go ?_ | refine Run.go rfl ?_ | refine Cont.go rfl ?_ | refine OrdP.go ?_)
      exact ⟨_, [], FinOk.drop _ _, congrArg (AV.int .i64) (show (0 : Int) = _ by
        rw [if_pos]
        exact ⟨by omega, of_decide_eq_true hp, by omega, by omega, hne, fun j x hj ex => by omega⟩), rfl⟩
    have hn0 : ¬ (n : Int) = 0 := h
    have hne : ¬ (n = 0 ∧ pl = slash) := fun h => hn0 (by omega)
    repeat (first | refine Ops.go ?_ | refine And.intro rfl ?_ | refine And.intro (Nat.le_of_ble_eq_true rfl) ?_ | refine And.intro (Int.natCast_nonneg _) ?_ | refine fun (_ : Nat) => ?_ | refine Ord.go ?_ | refine Run.go rfl ?_ | refine Cont.go rfl ?_ | refine OrdP.go ?_)
    refine Run.loop (fun k env L => ∃ i : Nat, k = n - i ∧ i ≤ n ∧ (∀ (j : Nat) (x : Sn), j < i → xs[j]? = some x → refNode pl kd xs n j x) ∧
        env = [.junk, .ptr 0 g1 0, .junk, .int .i64 i, .junk, .junk, .junk, .junk, .junk, .junk, .junk, .junk, .junk, .junk, .junk, .junk, .junk, .junk, .junk, .junk, .junk, .junk, .junk, .junk, .junk, .junk, .junk, .junk, .junk, .junk, .junk, .junk, .junk, .junk, .junk, .junk, .junk, .junk, .junk, .junk, .junk, .junk, .junk, .junk, .junk, .junk, .junk, .junk, .junk, .junk, .junk, .junk, .junk, .junk, .junk, .junk, .junk, .junk, .junk, .junk, .junk, .junk, .junk, .junk, .junk, .junk, .junk, .junk, .junk, .junk, .junk, .junk, .junk, .junk, .junk, .junk, .junk, .junk, .junk, .junk, .junk, .junk, .junk, .junk, .junk, .junk, .junk, .junk, .junk, .junk, .junk, .junk, .junk, .junk, .junk, .junk, .junk, .junk, .junk, .junk, .junk, .junk, .junk, .junk, .junk, .junk, .junk, .junk, .junk, .junk, .junk, .junk, .junk, .junk, .junk, .junk, .junk, .junk, .junk, .junk] ∧ L = [(g1, .cells 24 [.int .i64 st, .str pl, .int .i64 kd, rdo xs n])]) n
      [.junk, .ptr 0 g1 0, .junk, .int .i64 0, .junk, .junk, .junk, .junk, .junk, .junk, .junk, .junk, .junk, .junk, .junk, .junk, .junk, .junk, .junk, .junk, .junk, .junk, .junk, .junk, .junk, .junk, .junk, .junk, .junk, .junk, .junk, .junk, .junk, .junk, .junk, .junk, .junk, .junk, .junk, .junk, .junk, .junk, .junk, .junk, .junk, .junk, .junk, .junk, .junk, .junk, .junk, .junk, .junk, .junk, .junk, .junk, .junk, .junk, .junk, .junk, .junk, .junk, .junk, .junk, .junk, .junk, .junk, .junk, .junk, .junk, .junk, .junk, .junk, .junk, .junk, .junk, .junk, .junk, .junk, .junk, .junk, .junk, .junk, .junk, .junk, .junk, .junk, .junk, .junk, .junk, .junk, .junk, .junk, .junk, .junk, .junk, .junk, .junk, .junk, .junk, .junk, .junk, .junk, .junk, .junk, .junk, .junk, .junk, .junk, .junk, .junk, .junk, .junk, .junk, .junk, .junk, .junk, .junk, .junk, .junk] ?_ ⟨0, by omega, by omega, (fun j _ hj _ => absurd hj (Nat.not_lt_zero j)), rfl, rfl⟩ ?_
    · repeat (first | exact trivial | refine ⟨.inl rfl, ?_⟩ | refine ⟨.inr rfl, ?_⟩)
    rintro k env L ⟨i, rfl, hi, hP, rfl, rfl⟩
    repeat (first | refine Ops.go ?_ | refine And.intro rfl ?_ | refine And.intro (Nat.le_of_ble_eq_true rfl) ?_ | refine And.intro (Int.natCast_nonneg _) ?_ | refine fun (_ : Nat) => ?_ | refine Ord.go ?_ | refine Run.go rfl ?_ | refine Cont.go rfl ?_ | refine OrdP.go ?_)
    refine ⟨fun h => ?_, fun h => ?_⟩
    · have h : (i : Int) < (n : Int) := h
      obtain ⟨x, ex⟩ : ∃ x, xs[i]? = some x := ⟨xs[i], List.getElem?_eq_getElem (by omega)⟩
      have bad : ¬ refNode pl kd xs n i x → (51 : Int) = (if refP st pl kd xs n then 0 else 51) := fun hb => no (fun h2 => hb (h2.2.2.2.2.2 i x (by omega) ex))
      repeat (first | refine Ops.go ?_ | refine And.intro rfl ?_ | refine And.intro (Nat.le_of_ble_eq_true rfl) ?_ | refine And.intro (Int.natCast_nonneg _) ?_ | refine fun (_ : Nat) => ?_ | refine Ord.go ?_ | refine Run.go rfl ?_ | refine Cont.go rfl ?_ | refine OrdP.go ?_)
      refine ⟨h, enc x, enc_at _ _ _ ex, ?_⟩
      repeat (first | refine Ops.go ?_ | refine And.intro rfl ?_ | refine And.intro (Nat.le_of_ble_eq_true rfl) ?_ | refine And.intro (Int.natCast_nonneg _) ?_ | refine fun (_ : Nat) => ?_ | refine Ord.go ?_ | refine Run.go rfl ?_ | refine Cont.go rfl ?_ | refine OrdP.go ?_)
      have b1 := refIs_spec x.p
      have b2 := in_spec kd pl x.p
      have b3 := refHolds_spec x.d x.v
      cases e1 : decide (parseE x.p = 0) with
      | false =>
        rw [e1] at b1
        refine ACall.ret b1 ?_
        repeat (first | refine Ops.go ?_ | refine And.intro rfl ?_ | refine And.intro (Nat.le_of_ble_eq_true rfl) ?_ | refine And.intro (Int.natCast_nonneg _) ?_ | refine fun (_ : Nat) => ?_ | refine Ord.go ?_ | refine Run.go rfl ?_ | refine Cont.go rfl ?_ | refine OrdP.go ?_)
        exact ⟨_, [], FinOk.drop _ _, congrArg (AV.int .i64) (bad (fun hb => absurd hb.1 (of_decide_eq_false e1))), rfl⟩
      | true =>
      rw [e1] at b1
      refine ACall.ret b1 ?_
      repeat (first | refine Ops.go ?_ | refine And.intro rfl ?_ | refine And.intro (Nat.le_of_ble_eq_true rfl) ?_ | refine And.intro (Int.natCast_nonneg _) ?_ | refine fun (_ : Nat) => ?_ | refine Ord.go ?_ | refine Run.go rfl ?_ | refine Cont.go rfl ?_ | refine OrdP.go ?_)
      cases e2 : decide (inP kd pl x.p) with
      | false =>
        rw [e2] at b2
        refine ACall.ret b2 ?_
        repeat (first | refine Ops.go ?_ | refine And.intro rfl ?_ | refine And.intro (Nat.le_of_ble_eq_true rfl) ?_ | refine And.intro (Int.natCast_nonneg _) ?_ | refine fun (_ : Nat) => ?_ | refine Ord.go ?_ | refine Run.go rfl ?_ | refine Cont.go rfl ?_ | refine OrdP.go ?_)
        exact ⟨_, [], FinOk.drop _ _, congrArg (AV.int .i64) (bad (fun hb => absurd hb.2.1 (of_decide_eq_false e2))), rfl⟩
      | true =>
      rw [e2] at b2
      refine ACall.ret b2 ?_
      repeat (first | refine Ops.go ?_ | refine And.intro rfl ?_ | refine And.intro (Nat.le_of_ble_eq_true rfl) ?_ | refine And.intro (Int.natCast_nonneg _) ?_ | refine fun (_ : Nat) => ?_ | refine Ord.go ?_ | refine Run.go rfl ?_ | refine Cont.go rfl ?_ | refine OrdP.go ?_)
      cases e3 : decide (x.d.size ≤ 64 ∧ 0 ≤ x.v ∧ x.v ≤ 2147483647) with
      | false =>
        rw [e3] at b3
        refine ACall.ret b3 ?_
        repeat (first | refine Ops.go ?_ | refine And.intro rfl ?_ | refine And.intro (Nat.le_of_ble_eq_true rfl) ?_ | refine And.intro (Int.natCast_nonneg _) ?_ | refine fun (_ : Nat) => ?_ | refine Ord.go ?_ | refine Run.go rfl ?_ | refine Cont.go rfl ?_ | refine OrdP.go ?_)
        exact ⟨_, [], FinOk.drop _ _, congrArg (AV.int .i64) (bad (fun hb => absurd hb.2.2.1 (of_decide_eq_false e3))), rfl⟩
      | true =>
      rw [e3] at b3
      refine ACall.ret b3 ?_
      have e1 := of_decide_eq_true e1
      have e2 := of_decide_eq_true e2
      have e3 := of_decide_eq_true e3
      repeat (first | refine Ops.go ?_ | refine And.intro rfl ?_ | refine And.intro (Nat.le_of_ble_eq_true rfl) ?_ | refine And.intro (Int.natCast_nonneg _) ?_ | refine fun (_ : Nat) => ?_ | refine Ord.go ?_ | refine Run.go rfl ?_ | refine Cont.go rfl ?_ | refine OrdP.go ?_)
      refine Run.drawn true [0, 1, 2, 3, 4, 5, 6, 7, 8, 9, 10, 11, 12, 13, 14] (by kernel_rfl) ?_
      repeat (first | refine Ops.go ?_ | refine And.intro rfl ?_ | refine And.intro (Nat.le_of_ble_eq_true rfl) ?_ | refine And.intro (Int.natCast_nonneg _) ?_ | refine fun (_ : Nat) => ?_ | refine Ord.go ?_ | refine Run.go rfl ?_ | refine Cont.go rfl ?_ | refine OrdP.go ?_)
      refine ⟨fun hi0 => ?_, fun hi0 => ?_⟩
      case' refine_1 =>
        have hi0 : (0 : Int) < (i : Int) := hi0
        obtain ⟨y, ey⟩ : ∃ y, xs[i - 1]? = some y := ⟨xs[i - 1], List.getElem?_eq_getElem (by omega)⟩
        repeat (first | refine Ops.go ?_ | refine And.intro rfl ?_ | refine And.intro (Nat.le_of_ble_eq_true rfl) ?_ | refine And.intro (Int.natCast_nonneg _) ?_ | refine fun (_ : Nat) => ?_ | refine Ord.go ?_ | refine Run.go rfl ?_ | refine Cont.go rfl ?_ | refine OrdP.go ?_)
        refine fun r hr => ?_
        obtain rfl : r = ((i - 1 : Nat) : Int) := by rw [hr, IntKind.wrap_i64]; omega
        repeat (first | refine Ops.go ?_ | refine And.intro rfl ?_ | refine And.intro (Nat.le_of_ble_eq_true rfl) ?_ | refine And.intro (Int.natCast_nonneg _) ?_ | refine fun (_ : Nat) => ?_ | refine Ord.go ?_ | refine Run.go rfl ?_ | refine Cont.go rfl ?_ | refine OrdP.go ?_)
        refine ⟨show ((i - 1 : Nat) : Int) < (n : Int) by omega, enc y, enc_at _ _ _ ey, ?_⟩
        repeat (first | refine Ops.go ?_ | refine And.intro rfl ?_ | refine And.intro (Nat.le_of_ble_eq_true rfl) ?_ | refine And.intro (Int.natCast_nonneg _) ?_ | refine fun (_ : Nat) => ?_ | refine Ord.go ?_ | refine Run.go rfl ?_ | refine Cont.go rfl ?_ | refine OrdP.go ?_)
        refine ACallQ.ret (refOrder_spec y.p x.p (hps y (List.mem_of_getElem? ey))) ?_
        repeat (first | refine Ops.go ?_ | refine And.intro rfl ?_ | refine And.intro (Nat.le_of_ble_eq_true rfl) ?_ | refine And.intro (Int.natCast_nonneg _) ?_ | refine fun (_ : Nat) => ?_ | refine Ord.go ?_ | refine Run.go rfl ?_ | refine Cont.go rfl ?_ | refine OrdP.go ?_)
        refine ⟨fun ho => ?_, fun ho => ?_⟩
        · have ho : (0 : Int) ≤ orderB y.p x.p := ho
          repeat (first | refine Ops.go ?_ | refine And.intro rfl ?_ | refine And.intro (Nat.le_of_ble_eq_true rfl) ?_ | refine And.intro (Int.natCast_nonneg _) ?_ | refine fun (_ : Nat) => ?_ | refine Ord.go ?_ | refine Run.go rfl ?_ | refine Cont.go rfl ?_ | refine OrdP.go ?_)
          exact ⟨_, [], FinOk.drop _ _, congrArg (AV.int .i64) (bad (fun hb => by
            obtain ⟨z, ez, hz⟩ := hb.2.2.2.1 (by omega)
            rw [ey] at ez; cases ez
            omega)), rfl⟩
        have hord : i ≠ 0 → ∃ y, xs[i - 1]? = some y ∧ orderB y.p x.p < 0 := fun _ => ⟨y, ey, by have ho : ¬ (0 : Int) ≤ orderB y.p x.p := ho; omega⟩
      case' refine_2 =>
        have hi0 : ¬ (0 : Int) < (i : Int) := hi0
        have hord : i ≠ 0 → ∃ y, xs[i - 1]? = some y ∧ orderB y.p x.p < 0 := fun h => absurd h (by omega)
      all_goals
        repeat (first | refine Ops.go ?_ | refine And.intro rfl ?_ | refine And.intro (Nat.le_of_ble_eq_true rfl) ?_ | refine And.intro (Int.natCast_nonneg _) ?_ | refine fun (_ : Nat) => ?_ | refine Ord.go ?_ | refine Run.go rfl ?_ | refine Cont.go rfl ?_ | refine OrdP.go ?_)
        refine ⟨fun hk => ?_, fun hk => ?_⟩
        case' refine_1 =>
          have hk : kd = 2 := hk
          repeat (first | refine Ops.go ?_ | refine And.intro rfl ?_ | refine And.intro (Nat.le_of_ble_eq_true rfl) ?_ | refine And.intro (Int.natCast_nonneg _) ?_ | refine fun (_ : Nat) => ?_ | refine Ord.go ?_ | refine Run.go rfl ?_ | refine Cont.go rfl ?_ | refine OrdP.go ?_)
          refine ⟨fun hd => ?_, fun hd => ?_⟩
          · have hd : x.d ≠ ⟨#[]⟩ := hd
            repeat (first | refine Ops.go ?_ | refine And.intro rfl ?_ | refine And.intro (Nat.le_of_ble_eq_true rfl) ?_ | refine And.intro (Int.natCast_nonneg _) ?_ | refine fun (_ : Nat) => ?_ | refine Ord.go ?_ | refine Run.go rfl ?_ | refine Cont.go rfl ?_ | refine OrdP.go ?_)
            exact ⟨_, [], FinOk.drop _ _, congrArg (AV.int .i64) (bad (fun hb => hd (hb.2.2.2.2.1 hk).1)), rfl⟩
          have hd : x.d = ⟨#[]⟩ := Classical.not_not.1 hd
          repeat (first | refine Ops.go ?_ | refine And.intro rfl ?_ | refine And.intro (Nat.le_of_ble_eq_true rfl) ?_ | refine And.intro (Int.natCast_nonneg _) ?_ | refine fun (_ : Nat) => ?_ | refine Ord.go ?_ | refine Run.go rfl ?_ | refine Cont.go rfl ?_ | refine OrdP.go ?_)
          refine ⟨fun hv => ?_, fun hv => ?_⟩
          · have hv : x.v ≠ 0 := hv
            repeat (first | refine Ops.go ?_ | refine And.intro rfl ?_ | refine And.intro (Nat.le_of_ble_eq_true rfl) ?_ | refine And.intro (Int.natCast_nonneg _) ?_ | refine fun (_ : Nat) => ?_ | refine Ord.go ?_ | refine Run.go rfl ?_ | refine Cont.go rfl ?_ | refine OrdP.go ?_)
            exact ⟨_, [], FinOk.drop _ _, congrArg (AV.int .i64) (bad (fun hb => hv (hb.2.2.2.2.1 hk).2)), rfl⟩
          have hv : x.v = 0 := Classical.not_not.1 hv
          have hbare : kd = 2 → bare x := fun _ => ⟨hd, hv⟩
        case' refine_2 =>
          have hk : ¬ kd = 2 := hk
          have hbare : kd = 2 → bare x := fun h => absurd h hk
        all_goals
          repeat (first | refine Ops.go ?_ | refine And.intro rfl ?_ | refine And.intro (Nat.le_of_ble_eq_true rfl) ?_ | refine And.intro (Int.natCast_nonneg _) ?_ | refine fun (_ : Nat) => ?_ | refine Ord.go ?_ | refine Run.go rfl ?_ | refine Cont.go rfl ?_ | refine OrdP.go ?_)
          refine Run.drawn true [0, 1, 2, 3, 4, 5, 6, 7, 8, 9, 10, 11, 12, 13] (by kernel_rfl) ?_
          repeat (first | refine Ops.go ?_ | refine And.intro rfl ?_ | refine And.intro (Nat.le_of_ble_eq_true rfl) ?_ | refine And.intro (Int.natCast_nonneg _) ?_ | refine fun (_ : Nat) => ?_ | refine Ord.go ?_ | refine Run.go rfl ?_ | refine Cont.go rfl ?_ | refine OrdP.go ?_)
          refine ⟨fun hp2 => ?_, fun hp2 => ?_⟩
          case' refine_1 =>
            have hp2 : x.p ≠ pl := hp2
            repeat (first | refine Ops.go ?_ | refine And.intro rfl ?_ | refine And.intro (Nat.le_of_ble_eq_true rfl) ?_ | refine And.intro (Int.natCast_nonneg _) ?_ | refine fun (_ : Nat) => ?_ | refine Ord.go ?_ | refine Run.go rfl ?_ | refine Cont.go rfl ?_ | refine OrdP.go ?_)
            refine ACallQ.ret (above_spec x.p) ?_
            repeat (first | refine Ops.go ?_ | refine And.intro rfl ?_ | refine And.intro (Nat.le_of_ble_eq_true rfl) ?_ | refine And.intro (Int.natCast_nonneg _) ?_ | refine fun (_ : Nat) => ?_ | refine Ord.go ?_ | refine Run.go rfl ?_ | refine Cont.go rfl ?_ | refine OrdP.go ?_)
            refine ACallQ.pure _ (find_spec xs n hn (by omega) (parentB x.p)) ?_
            rintro r L' ⟨⟨z, rfl, hz⟩, rfl⟩
            repeat (first | refine Ops.go ?_ | refine And.intro rfl ?_ | refine And.intro (Nat.le_of_ble_eq_true rfl) ?_ | refine And.intro (Int.natCast_nonneg _) ?_ | refine fun (_ : Nat) => ?_ | refine Ord.go ?_ | refine Run.go rfl ?_ | refine Cont.go rfl ?_ | refine OrdP.go ?_)
            refine ⟨fun hz0 => ?_, fun hz0 => ?_⟩
            · have hz0 : z < 0 := hz0
              repeat (first | refine Ops.go ?_ | refine And.intro rfl ?_ | refine And.intro (Nat.le_of_ble_eq_true rfl) ?_ | refine And.intro (Int.natCast_nonneg _) ?_ | refine fun (_ : Nat) => ?_ | refine Ord.go ?_ | refine Run.go rfl ?_ | refine Cont.go rfl ?_ | refine OrdP.go ?_)
              exact ⟨_, [], FinOk.drop _ _, congrArg (AV.int .i64) (bad (fun hb => hz.1 hz0 (hb.2.2.2.2.2 hp2))), rfl⟩
            have hup : x.p ≠ pl → ∃ k z, k < n ∧ xs[k]? = some z ∧ z.p = parentB x.p := fun _ => Classical.byContradiction fun hno => (show ¬ z < 0 from hz0) (hz.2 hno)
          case' refine_2 =>
            have hp2 : x.p = pl := Classical.not_not.1 hp2
            have hup : x.p ≠ pl → ∃ k z, k < n ∧ xs[k]? = some z ∧ z.p = parentB x.p := fun h => absurd hp2 h
          all_goals
            repeat (first | refine Ops.go ?_ | refine And.intro rfl ?_ | refine And.intro (Nat.le_of_ble_eq_true rfl) ?_ | refine And.intro (Int.natCast_nonneg _) ?_ | refine fun (_ : Nat) => ?_ | refine Ord.go ?_ | refine Run.go rfl ?_ | refine Cont.go rfl ?_ | refine OrdP.go ?_)
            refine fun r hr => ?_
            obtain rfl := add1 hr (by omega)
            repeat (first | refine Ops.go ?_ | refine And.intro rfl ?_ | refine And.intro (Nat.le_of_ble_eq_true rfl) ?_ | refine And.intro (Int.natCast_nonneg _) ?_ | refine fun (_ : Nat) => ?_ | refine Ord.go ?_ | refine Run.go rfl ?_ | refine Cont.go rfl ?_ | refine OrdP.go ?_)
            refine Cont.lp ?_
            refine ⟨n - (i + 1), [.junk, .ptr 0 g1 0, .junk, .int .i64 (i + 1 : Nat), .junk, .junk, .junk, .junk, .junk, .junk, .junk, .junk, .junk, .junk, .junk, .junk, .junk, .junk, .junk, .junk, .junk, .junk, .junk, .junk, .junk, .junk, .junk, .junk, .junk, .junk, .junk, .junk, .junk, .junk, .junk, .junk, .junk, .junk, .junk, .junk, .junk, .junk, .junk, .junk, .junk, .junk, .junk, .junk, .junk, .junk, .junk, .junk, .junk, .junk, .junk, .junk, .junk, .junk, .junk, .junk, .junk, .junk, .junk, .junk, .junk, .junk, .junk, .junk, .junk, .junk, .junk, .junk, .junk, .junk, .junk, .junk, .junk, .junk, .junk, .junk, .junk, .junk, .junk, .junk, .junk, .junk, .junk, .junk, .junk, .junk, .junk, .junk, .junk, .junk, .junk, .junk, .junk, .junk, .junk, .junk, .junk, .junk, .junk, .junk, .junk, .junk, .junk, .junk, .junk, .junk, .junk, .junk, .junk, .junk, .junk, .junk, .junk, .junk, .junk, .junk], 1, by omega, ?_, ⟨i + 1, rfl, by omega, ?_, rfl, rfl⟩⟩
            · repeat (first | exact trivial | refine ⟨.inl rfl, ?_⟩ | refine ⟨.inr rfl, ?_⟩)
            · intro j w hj ew
              by_cases e : j = i
              · subst e; rw [ex] at ew; cases ew; exact ⟨e1, e2, e3, hord, hbare, hup⟩
              · exact hP j w (by omega) ew
    · have h : ¬ (i : Int) < (n : Int) := h
      repeat (first | refine Ops.go ?_ | refine And.intro rfl ?_ | refine And.intro (Nat.le_of_ble_eq_true rfl) ?_ | refine And.intro (Int.natCast_nonneg _) ?_ | refine fun (_ : Nat) => ?_ | refine Ord.go ?_ | refine Run.go rfl ?_ | refine Cont.go rfl ?_ | refine OrdP.go ?_)
      exact ⟨_, [], FinOk.drop _ _, congrArg (AV.int .i64) (show (0 : Int) = _ by
        rw [if_pos]
        exact ⟨by omega, of_decide_eq_true hp, by omega, by omega, hne, fun j x hj ex => hP j x (by omega) ex⟩), rfl⟩
end Go.Proofs.YtfohedaadncefaaDoor.HBT
/- The plain law of Check: what the program's text asks and what the document's text asks is the same. -/
namespace Go.Proofs.YtfohedaadncefaaDoor.HBT
open Go Go.Proofs.YtfohedaadncefaaDoor.HB Go.RowKit
set_option maxRecDepth 8000

theorem parent_place {s : ByteArray} (h : parseE s = 0) (hp : parseE (parentB s) = 0) : namesOf s ≠ [] ∧ parentE s = 0 := by
  have h1 := parent_of h
  by_cases hn : namesOf s = []
  · have : parentE s = 47 := by rw [h1.1, if_pos hn]
    have h2 : parentB s = ⟨#[]⟩ := by unfold parentB; rw [if_pos (by omega)]
    rw [h2] at hp
    exact absurd hp (by decide)
  · exact ⟨hn, by rw [h1.1, if_neg hn]⟩

theorem join_take : ∀ (l : List (List UInt8)) (n : Nat), n < l.length → (∀ x ∈ l, x ≠ []) → ∃ t, t ≠ [] ∧ Lib.join l [47] = Lib.join (l.take n) [47] ++ t
  | [], n, h, _ => absurd h (Nat.not_lt_zero n)
  | x :: l, 0, _, hx => by
    refine ⟨Lib.join (x :: l) [47], ?_, by simp [Lib.join, List.intercalate]⟩
    cases l with
    | nil => rw [Lib.join_one]; exact hx x (by simp)
    | cons y l => simp [Lib.join, List.intercalate, List.intersperse, hx x (by simp)]
  | [x], n + 1, h, _ => by simp at h
  | x :: y :: l, n + 1, h, hx => by
    obtain ⟨t, ht, e⟩ := join_take (y :: l) n (by simp at h ⊢; omega) (fun z hz => hx z (by simp at hz ⊢; right; exact hz))
    cases n with
    | zero =>
      refine ⟨47 :: Lib.join (y :: l) [47], by simp, ?_⟩
      simp [Lib.join, List.intercalate]
    | succ n =>
      refine ⟨t, ht, ?_⟩
      have h1 : Lib.join (x :: y :: l) [47] = x ++ 47 :: Lib.join (y :: l) [47] := by simp [Lib.join, List.intercalate, List.intersperse]
      have h2 : Lib.join ((x :: y :: l).take (n + 1 + 1)) [47] = x ++ 47 :: Lib.join ((y :: l).take (n + 1)) [47] := by simp [Lib.join, List.intercalate]
      rw [h1, h2, e]
      simp

/-- A place stands behind its parent. -/
theorem parent_lt {s : ByteArray} (h : parseE s = 0) (hp : parseE (parentB s) = 0) : orderB (parentB s) s < 0 := by
  obtain ⟨hn, _⟩ := parent_place h hp
  obtain ⟨hok, hs⟩ := place_names h
  have hl : 0 < (namesOf s).length := List.length_pos_iff.2 hn
  rw [(parent_of h).2 hn]
  unfold orderB
  rw [congrArg (fun z : ByteArray => z.data.toList) hs, placed_data, placed_data]
  obtain ⟨t, ht, e⟩ := join_take ((namesOf s).map (·.data.toList)) ((namesOf s).length - 1) (by simp; omega) (fun x hx => by
    obtain ⟨y, hy, rfl⟩ := List.mem_map.1 hx
    exact name_ne_nil (hok.2 y hy))
  have e2 : joinB (namesOf s) = joinB ((namesOf s).take ((namesOf s).length - 1)) ++ t := by unfold joinB; rw [e, List.map_take]
  rw [e2, ← List.cons_append]
  exact orderL_prefix _ _ ht

theorem below_places {low high : ByteArray} (hl : parseE low = 0) (hh : parseE high = 0) : belowR low high ↔ belowB low high := by
  unfold belowR belowB namesR
  rw [if_pos hl, if_pos hh]
  obtain ⟨okh, eh⟩ := place_names hh
  obtain ⟨okl, el⟩ := place_names hl
  constructor
  · rintro ⟨h1, h2⟩
    exact ⟨hl, _, h1, by rw [h2]; exact eh⟩
  · rintro ⟨_, j, hj, e⟩
    have := placed_inj okh (okl.take j) (eh.symm.trans e)
    rw [this, List.length_take, Nat.min_eq_left (by omega)]
    exact ⟨hj, rfl⟩

theorem check_ref (st : Int) (pl : ByteArray) (kd : Int) (xs : List Sn) (n : Nat) (hn : n ≤ xs.length) : checkP st pl kd xs n ↔ refP st pl kd xs n := by
  unfold checkP refP
  refine and_congr_right fun _ => and_congr_right fun hpl => and_congr_right fun hkd => and_congr_right fun _ => and_congr_right fun _ => ?_
  constructor
  · intro H i x hi ex
    obtain ⟨h1, h2, h3⟩ := H i x hi ex
    obtain ⟨x0, e0⟩ : ∃ x0, xs[0]? = some x0 := ⟨xs[0], List.getElem?_eq_getElem (by omega)⟩
    have first : x0.p = pl := by
      rcases (H 0 x0 (by omega) e0).2.2 with ⟨_, h, _⟩ | ⟨h, _⟩
      · exact h
      · exact absurd rfl h
    rcases h3 with ⟨rfl, hp, hb⟩ | ⟨hi0, y, ey, hy, hb⟩
    · exact ⟨h1, .inl hp, h2, fun h => absurd rfl h, fun hk => hb.resolve_left (fun h => h hk), fun h => absurd hp h⟩
    · refine ⟨h1, ?_, h2, fun _ => ⟨y, ey, hy⟩, ?_, fun hne => ?_⟩
      · rcases hb with ⟨hk, hc, _⟩ | ⟨hk, hc, _⟩
        · exact .inr (.inl ⟨hk, hc.2⟩)
        · exact .inr (.inr ⟨by omega, hk, (below_places h1 hpl).2 hc⟩)
      · intro hk
        rcases hb with ⟨_, _, hb⟩ | ⟨hk3, _⟩
        · exact hb
        · omega
      · rcases hb with ⟨hk, hc, _⟩ | ⟨_, _, k, z, hk, ez, hz⟩
        · exact ⟨0, x0, by omega, e0, first.trans hc.2.symm⟩
        · exact ⟨k, z, by omega, ez, hz⟩
  · intro H i x hi ex
    have hs : Sorted xs n := sorted_of hn (fun k x y hk ex ey => by
      obtain ⟨_, _, _, h4, _⟩ := H (k + 1) y (by omega) ey
      obtain ⟨z, ez, hz⟩ := h4 (by omega)
      rw [Nat.add_sub_cancel, ex] at ez
      cases ez
      exact hz)
    have up : ∀ (i : Nat) (x : Sn), i < n → xs[i]? = some x → x.p ≠ pl → ∃ k z, k < i ∧ xs[k]? = some z ∧ z.p = parentB x.p := fun i x hi ex hne => by
      obtain ⟨h1, _, _, _, _, h6⟩ := H i x hi ex
      obtain ⟨k, z, hk, ez, hz⟩ := h6 hne
      have hzp := (H k z hk ez).1
      have hlt := parent_lt h1 (by rw [← hz]; exact hzp)
      rw [← hz] at hlt
      refine ⟨k, z, ?_, ez, hz⟩
      rcases Nat.lt_trichotomy k i with h | h | h
      · exact h
      · subst h
        rw [ex] at ez; cases ez
        have := (@orderL_eq x.p.data.toList x.p.data.toList).2 rfl
        unfold orderB at hlt
        omega
      · have h7 := hs i k x z h hk ex ez
        have h8 := orderL_swap x.p.data.toList z.p.data.toList
        unfold orderB at hlt h7
        omega
    obtain ⟨x0, e0⟩ : ∃ x0, xs[0]? = some x0 := ⟨xs[0], List.getElem?_eq_getElem (by omega)⟩
    have first : x0.p = pl := by
      apply Classical.byContradiction
      intro hne
      obtain ⟨k, _, hk, _⟩ := up 0 x0 (by omega) e0 hne
      exact absurd hk (Nat.not_lt_zero k)
    obtain ⟨h1, h2, h3, h4, h5, h6⟩ := H i x hi ex
    refine ⟨h1, h3, ?_⟩
    by_cases hi0 : i = 0
    · subst hi0
      rw [e0] at ex; cases ex
      refine .inl ⟨rfl, first, ?_⟩
      by_cases hk : kd = 2
      · exact .inr (h5 hk)
      · exact .inl hk
    · obtain ⟨y, ey, hy⟩ := h4 hi0
      refine .inr ⟨hi0, y, ey, hy, ?_⟩
      have hne : x.p ≠ pl := fun e => by
        have h7 := hs 0 i x0 x (by omega) hi e0 ex
        rw [first, e] at h7
        have := (@orderL_eq pl.data.toList pl.data.toList).2 rfl
        unfold orderB at h7
        omega
      rcases h2 with h2 | ⟨hk, h2⟩ | ⟨_, hk, h2⟩
      · exact absurd h2 hne
      · exact .inl ⟨hk, ⟨(parent_place h1 (by rw [h2]; exact hpl)).2, h2⟩, h5 hk⟩
      · exact .inr ⟨hk, (below_places h1 hpl).1 h2, up i x hi ex hne⟩

end Go.Proofs.YtfohedaadncefaaDoor.HBT
/- The contract of the document's own text 'Encode'. -/
namespace Go.Proofs.YtfohedaadncefaaDoor.HBT
open Go Go.Proofs.YtfohedaadncefaaDoor.HB Go.RowKit
set_option maxRecDepth 8000

theorem merge_tail1 (a : Nat × AObj) : ∀ (T : AHeap) (j : Nat), mergeA [1] [a] (j + 2) T = T
  | [], j => rfl
  | x :: T, j => by
    simp only [mergeA]
    rw [show j + 2 + 1 = (j + 1) + 2 by omega, merge_tail1 a T (j + 1)]
    have : idxN [1] (j + 2) 0 = none := by
      simp only [idxN]
      rw [if_neg (by simp)]
    rw [this]
theorem rstep1 {f : FuncId} {x : AV} {new : List Int} {s0 : Nat × AObj} {K : AV → AHeap → Prop} (spec : ∀ b L, BH [] b L → FnSpec C f [b, x] L (fun r L' => BH ([] ++ new) r L')) (hne : new ≠ [])
    (k : ∀ g Cp, K (.sl 1 g Cp new.length) [s0, (g, .row 5 1 Cp (u8s new))]) : ACall C f [.nils, x] [s0] K :=
  .pure _ (spec _ _ (.inl ⟨rfl, rfl, rfl⟩)) (by
    intro r L' h
    rcases h with ⟨h, _⟩ | ⟨_, g, Cp, rfl, rfl⟩
    · exact absurd h hne
    · exact ⟨_, Sub.sl _ 1 _ _ _, k g Cp⟩)
theorem rstep {f : FuncId} {x : AV} {acc new : List Int} {gb Cb : Nat} {s0 : Nat × AObj} {T : AHeap} {K : AV → AHeap → Prop} (spec : ∀ b L, BH acc b L → FnSpec C f [b, x] L (fun r L' => BH (acc ++ new) r L')) (hacc : acc ≠ [])
    (k : ∀ g Cp, K (.sl 1 g Cp (acc ++ new).length) (s0 :: (g, .row 5 1 Cp (u8s (acc ++ new))) :: T)) : ACall C f [.sl 1 gb Cb acc.length, x] (s0 :: (gb, .row 5 1 Cb (u8s acc)) :: T) K :=
  .sel [1] (by decide) [.sl 0 gb Cb acc.length, x] _ (.two (Sub.sl _ _ _ _ _) (Sub.refl _)) (spec _ _ (.inr ⟨hacc, gb, Cb, rfl, rfl⟩)) (by
    intro r L' h
    rcases h with ⟨h, _⟩ | ⟨_, g, Cp, rfl, rfl⟩
    · exact absurd (List.append_eq_nil_iff.1 h).1 hacc
    · refine ⟨_, Sub.sl _ 1 _ _ _, ?_⟩
      show K _ (s0 :: (g, .row 5 1 Cp (u8s (acc ++ new))) :: mergeA [1] _ (0 + 2) T)
      rw [merge_tail1]
      exact k g Cp)

set_option maxHeartbeats 2000000 in
theorem refEncode_spec (st : Int) (pl : ByteArray) (kd : Int) (xs : List Sn) (n : Nat) (hn : n ≤ xs.length) (hps : ∀ x ∈ xs, x.p.size ≤ 9223372036854775807) :
    FnSpec C 33 [shot st pl kd (rdo xs n)] [] (fun r L' => (¬ refP st pl kd xs n ∧ r = .tuple [.nils, .int .i64 51] ∧ L' = []) ∨
      (refP st pl kd xs n ∧ ∃ g Cp, r = .tuple [.sl 0 g Cp (encI st pl kd xs n).length, .int .i64 0] ∧ L' = [(g, .row 5 1 Cp (u8s (encI st pl kd xs n)))])) := by
  refine FnSpec.start C_ok Tryd.func33 rfl rfl Tryd.ntmps33 ?_
  repeat (first | refine Ops.go ?_ | refine And.intro rfl ?_ | refine And.intro (Nat.le_of_ble_eq_true rfl) ?_ | refine And.intro (Int.natCast_nonneg _) ?_ | refine fun (_ : Nat) => ?_ | refine Ord.go ?_ | refine Run.go rfl ?_ | refine Cont.go rfl ?_ | refine OrdP.go ?_)
  have c1 := refCheck_spec st pl kd xs n hn hps
  by_cases hP : refP st pl kd xs n
  case neg =>
    rw [if_neg hP] at c1
    refine ACall.ret c1 ?_
    repeat (first | refine Ops.go ?_ | refine And.intro rfl ?_ | refine And.intro (Nat.le_of_ble_eq_true rfl) ?_ | refine And.intro (Int.natCast_nonneg _) ?_ | refine fun (_ : Nat) => ?_ | refine Ord.go ?_ | refine Run.go rfl ?_ | refine Cont.go rfl ?_ | refine OrdP.go ?_)
    refine ⟨fun _ => ?_, fun h => absurd (by decide) h⟩
    repeat (first | refine Ops.go ?_ | refine And.intro rfl ?_ | refine And.intro (Nat.le_of_ble_eq_true rfl) ?_ | refine And.intro (Int.natCast_nonneg _) ?_ | refine fun (_ : Nat) => ?_ | refine Ord.go ?_ | refine Run.go rfl ?_ | refine Cont.go rfl ?_ | refine OrdP.go ?_)
    exact ⟨_, [], FinOk.drop _ _, .inl ⟨hP, rfl, rfl⟩⟩
  rw [if_pos hP] at c1
  refine ACall.ret c1 ?_
  repeat (first | refine Ops.go ?_ | refine And.intro rfl ?_ | refine And.intro (Nat.le_of_ble_eq_true rfl) ?_ | refine And.intro (Int.natCast_nonneg _) ?_ | refine fun (_ : Nat) => ?_ | refine Ord.go ?_ | refine Run.go rfl ?_ | refine Cont.go rfl ?_ | refine OrdP.go ?_)
  refine ⟨fun h => absurd rfl h, fun _ => ?_⟩
  have hP0 := hP
  obtain ⟨⟨hst0, hst⟩, hpl, hkd, hn64, _, hnodes⟩ := hP
  have ht := headI_len (st := st) (kd := kd) (n := n) hpl
  have hps := place_size hpl
  have l1 := (numI_len st.toNat).2
  have l2 := txtI_len pl
  have l3 := (numI_len kd.toNat).2
  have l4 := (numI_len n).2
  repeat (first | refine Ops.go ?_ | refine And.intro rfl ?_ | refine And.intro (Nat.le_of_ble_eq_true rfl) ?_ | refine And.intro (Int.natCast_nonneg _) ?_ | refine fun (_ : Nat) => ?_ | refine Ord.go ?_ | refine Run.go rfl ?_ | refine Cont.go rfl ?_ | refine OrdP.go ?_)
  refine rstep1 (new := numI st.toNat) (fun b L h => ?_) (numI_ne _) (fun g1 C1 => ?_)
  · have := refNum_spec [] st.toNat (by omega) (by simp) h
    rw [Int.toNat_of_nonneg hst0] at this
    exact this
  repeat (first | refine Ops.go ?_ | refine And.intro rfl ?_ | refine And.intro (Nat.le_of_ble_eq_true rfl) ?_ | refine And.intro (Int.natCast_nonneg _) ?_ | refine fun (_ : Nat) => ?_ | refine Ord.go ?_ | refine Run.go rfl ?_ | refine Cont.go rfl ?_ | refine OrdP.go ?_)
  refine rstep (acc := numI st.toNat) (new := txtI pl) (T := []) (fun b L h => refTxt_spec _ pl (by omega) (by omega) h) (numI_ne _) (fun g2 C2 => ?_)
  repeat (first | refine Ops.go ?_ | refine And.intro rfl ?_ | refine And.intro (Nat.le_of_ble_eq_true rfl) ?_ | refine And.intro (Int.natCast_nonneg _) ?_ | refine fun (_ : Nat) => ?_ | refine Ord.go ?_ | refine Run.go rfl ?_ | refine Cont.go rfl ?_ | refine OrdP.go ?_)
  refine rstep (acc := numI st.toNat ++ txtI pl) (new := numI kd.toNat) (T := []) (fun b L h => ?_) (fun e => numI_ne _ (List.append_eq_nil_iff.1 e).1) (fun g3 C3 => ?_)
  · have := refNum_spec (numI st.toNat ++ txtI pl) kd.toNat (by omega) (by rw [List.length_append]; omega) h
    rw [Int.toNat_of_nonneg (by omega)] at this
    exact this
  repeat (first | refine Ops.go ?_ | refine And.intro rfl ?_ | refine And.intro (Nat.le_of_ble_eq_true rfl) ?_ | refine And.intro (Int.natCast_nonneg _) ?_ | refine fun (_ : Nat) => ?_ | refine Ord.go ?_ | refine Run.go rfl ?_ | refine Cont.go rfl ?_ | refine OrdP.go ?_)
  refine rstep (acc := numI st.toNat ++ txtI pl ++ numI kd.toNat) (new := numI n) (T := []) (fun b L h => refNum_spec _ n (by omega) (by rw [List.length_append, List.length_append]; omega) h) (fun e => numI_ne _ (List.append_eq_nil_iff.1 e).2) (fun g4 C4 => ?_)
  have nodes : ∀ (i : Nat) (x : Sn), i < n → xs[i]? = some x → parseE x.p = 0 ∧ x.d.size ≤ 64 := fun i x hi ex => ⟨(hnodes i x hi ex).1, (hnodes i x hi ex).2.2.1.1⟩
  have a0 : headI st pl kd n ++ nodesI (xs.take 0) = headI st pl kd n := by simp [nodesI]
  repeat (first | refine Ops.go ?_ | refine And.intro rfl ?_ | refine And.intro (Nat.le_of_ble_eq_true rfl) ?_ | refine And.intro (Int.natCast_nonneg _) ?_ | refine fun (_ : Nat) => ?_ | refine Ord.go ?_ | refine Run.go rfl ?_ | refine Cont.go rfl ?_ | refine OrdP.go ?_)
  refine Run.loop (fun k env L => ∃ (i g0 gb Cb : Nat), k = n - i ∧ i ≤ n ∧ env = [.junk, .ptr 0 g0 0, .junk, .junk, .sl 1 gb Cb (headI st pl kd n ++ nodesI (xs.take i)).length, .int .i64 i, .junk, .junk, .junk, .junk, .junk, .junk, .junk, .junk, .junk, .junk, .junk, .junk, .junk, .junk, .junk, .junk, .junk, .junk, .junk, .junk, .junk, .junk, .junk, .junk, .junk, .junk, .junk, .junk, .junk, .junk, .junk, .junk, .junk, .junk, .junk, .junk, .junk, .junk, .junk, .junk, .junk, .junk, .junk, .junk, .junk, .junk, .junk, .junk, .junk, .junk, .junk, .junk] ∧
      L = [(g0, .cells 24 [.int .i64 st, .str pl, .int .i64 kd, rdo xs n]), (gb, .row 5 1 Cb (u8s (headI st pl kd n ++ nodesI (xs.take i))))]) n
    [.junk, .ptr 0 _ 0, .junk, .junk, .sl 1 g4 C4 (headI st pl kd n).length, .int .i64 (0 : Nat), .junk, .junk, .junk, .junk, .junk, .junk, .junk, .junk, .junk, .junk, .junk, .junk, .junk, .junk, .junk, .junk, .junk, .junk, .junk, .junk, .junk, .junk, .junk, .junk, .junk, .junk, .junk, .junk, .junk, .junk, .junk, .junk, .junk, .junk, .junk, .junk, .junk, .junk, .junk, .junk, .junk, .junk, .junk, .junk, .junk, .junk, .junk, .junk, .junk, .junk, .junk, .junk] ?_ ⟨0, _, g4, C4, by omega, by omega, by rw [a0], by rw [a0]; rfl⟩ ?_
  · repeat (first | exact trivial | refine ⟨.inl rfl, ?_⟩ | refine ⟨.inr rfl, ?_⟩)
  rintro k env L ⟨i, g0, gb, Cb, rfl, hi, rfl, rfl⟩
  have hlen := nodesI_len hn nodes i hi
  have hne : ∀ l, headI st pl kd n ++ l ≠ [] := fun l e => headI_ne _ _ _ _ (List.append_eq_nil_iff.1 e).1
  repeat (first | refine Ops.go ?_ | refine And.intro rfl ?_ | refine And.intro (Nat.le_of_ble_eq_true rfl) ?_ | refine And.intro (Int.natCast_nonneg _) ?_ | refine fun (_ : Nat) => ?_ | refine Ord.go ?_ | refine Run.go rfl ?_ | refine Cont.go rfl ?_ | refine OrdP.go ?_)
  refine ⟨fun h => ?_, fun h => ?_⟩
  · have h : (i : Int) < (n : Int) := h
    obtain ⟨x, ex⟩ : ∃ x, xs[i]? = some x := ⟨xs[i], List.getElem?_eq_getElem (by omega)⟩
    obtain ⟨q1, q2⟩ := nodes i x (by omega) ex
    obtain ⟨_, _, ⟨_, q3, q4⟩, _⟩ := hnodes i x (by omega) ex
    have q5 := place_size q1
    have m1 := txtI_len x.p
    have m2 := txtI_len x.d
    repeat (first | refine Ops.go ?_ | refine And.intro rfl ?_ | refine And.intro (Nat.le_of_ble_eq_true rfl) ?_ | refine And.intro (Int.natCast_nonneg _) ?_ | refine fun (_ : Nat) => ?_ | refine Ord.go ?_ | refine Run.go rfl ?_ | refine Cont.go rfl ?_ | refine OrdP.go ?_)
    refine ⟨h, enc x, enc_at _ _ _ ex, ?_⟩
    repeat (first | refine Ops.go ?_ | refine And.intro rfl ?_ | refine And.intro (Nat.le_of_ble_eq_true rfl) ?_ | refine And.intro (Int.natCast_nonneg _) ?_ | refine fun (_ : Nat) => ?_ | refine Ord.go ?_ | refine Run.go rfl ?_ | refine Cont.go rfl ?_ | refine OrdP.go ?_)
    refine rstep (acc := headI st pl kd n ++ nodesI (xs.take i)) (new := txtI x.p) (T := []) (fun b L h => refTxt_spec _ x.p (by omega) (by rw [List.length_append]; omega) h) (hne _) (fun g1 C1 => ?_)
    repeat (first | refine Ops.go ?_ | refine And.intro rfl ?_ | refine And.intro (Nat.le_of_ble_eq_true rfl) ?_ | refine And.intro (Int.natCast_nonneg _) ?_ | refine fun (_ : Nat) => ?_ | refine Ord.go ?_ | refine Run.go rfl ?_ | refine Cont.go rfl ?_ | refine OrdP.go ?_)
    refine ⟨h, enc x, enc_at _ _ _ ex, ?_⟩
    repeat (first | refine Ops.go ?_ | refine And.intro rfl ?_ | refine And.intro (Nat.le_of_ble_eq_true rfl) ?_ | refine And.intro (Int.natCast_nonneg _) ?_ | refine fun (_ : Nat) => ?_ | refine Ord.go ?_ | refine Run.go rfl ?_ | refine Cont.go rfl ?_ | refine OrdP.go ?_)
    refine rstep (acc := headI st pl kd n ++ nodesI (xs.take i) ++ txtI x.p) (new := txtI x.d) (T := []) (fun b L h => refTxt_spec _ x.d (by omega) (by rw [List.length_append, List.length_append]; omega) h) (by rw [List.append_assoc]; exact hne _) (fun g1 C1 => ?_)
    repeat (first | refine Ops.go ?_ | refine And.intro rfl ?_ | refine And.intro (Nat.le_of_ble_eq_true rfl) ?_ | refine And.intro (Int.natCast_nonneg _) ?_ | refine fun (_ : Nat) => ?_ | refine Ord.go ?_ | refine Run.go rfl ?_ | refine Cont.go rfl ?_ | refine OrdP.go ?_)
    refine ⟨h, enc x, enc_at _ _ _ ex, ?_⟩
    repeat (first | refine Ops.go ?_ | refine And.intro rfl ?_ | refine And.intro (Nat.le_of_ble_eq_true rfl) ?_ | refine And.intro (Int.natCast_nonneg _) ?_ | refine fun (_ : Nat) => ?_ | refine Ord.go ?_ | refine Run.go rfl ?_ | refine Cont.go rfl ?_ | refine OrdP.go ?_)
    refine rstep (acc := headI st pl kd n ++ nodesI (xs.take i) ++ txtI x.p ++ txtI x.d) (new := numI x.v.toNat) (T := []) (fun b L h => ?_) (by rw [List.append_assoc, List.append_assoc]; exact hne _) (fun g3 C3 => ?_)
    · have := refNum_spec (headI st pl kd n ++ nodesI (xs.take i) ++ txtI x.p ++ txtI x.d) x.v.toNat (by omega) (by rw [List.length_append, List.length_append, List.length_append]; omega) h
      rw [Int.toNat_of_nonneg q3] at this
      exact this
    repeat (first | refine Ops.go ?_ | refine And.intro rfl ?_ | refine And.intro (Nat.le_of_ble_eq_true rfl) ?_ | refine And.intro (Int.natCast_nonneg _) ?_ | refine fun (_ : Nat) => ?_ | refine Ord.go ?_ | refine Run.go rfl ?_ | refine Cont.go rfl ?_ | refine OrdP.go ?_)
    refine fun r hr => ?_
    obtain rfl := add1 hr (by omega)
    repeat (first | refine Ops.go ?_ | refine And.intro rfl ?_ | refine And.intro (Nat.le_of_ble_eq_true rfl) ?_ | refine And.intro (Int.natCast_nonneg _) ?_ | refine fun (_ : Nat) => ?_ | refine Ord.go ?_ | refine Run.go rfl ?_ | refine Cont.go rfl ?_ | refine OrdP.go ?_)
    refine Cont.lp ?_
    have ea : headI st pl kd n ++ nodesI (xs.take (i + 1)) = headI st pl kd n ++ nodesI (xs.take i) ++ txtI x.p ++ txtI x.d ++ numI x.v.toNat := by
      rw [nodesI_take ex]; unfold nodeI; simp only [List.append_assoc]
    refine ⟨n - (i + 1), [.junk, .ptr 0 g0 0, .junk, .junk, .sl 1 g3 C3 (headI st pl kd n ++ nodesI (xs.take i) ++ txtI x.p ++ txtI x.d ++ numI x.v.toNat).length, .int .i64 (i + 1 : Nat), .junk, .junk, .junk, .junk, .junk, .junk, .junk, .junk, .junk, .junk, .junk, .junk, .junk, .junk, .junk, .junk, .junk, .junk, .junk, .junk, .junk, .junk, .junk, .junk, .junk, .junk, .junk, .junk, .junk, .junk, .junk, .junk, .junk, .junk, .junk, .junk, .junk, .junk, .junk, .junk, .junk, .junk, .junk, .junk, .junk, .junk, .junk, .junk, .junk, .junk, .junk, .junk], 2, by omega, ?_, ⟨i + 1, g0, g3, C3, rfl, by omega, by rw [ea], by rw [ea]; rfl⟩⟩
    repeat (first | exact trivial | refine ⟨.inl rfl, ?_⟩ | refine ⟨.inr rfl, ?_⟩)
  · have h : ¬ (i : Int) < (n : Int) := h
    obtain rfl : i = n := by omega
    repeat (first | refine Ops.go ?_ | refine And.intro rfl ?_ | refine And.intro (Nat.le_of_ble_eq_true rfl) ?_ | refine And.intro (Int.natCast_nonneg _) ?_ | refine fun (_ : Nat) => ?_ | refine Ord.go ?_ | refine Run.go rfl ?_ | refine Cont.go rfl ?_ | refine OrdP.go ?_)
    exact ⟨.tuple [.sl 0 gb Cb (encI st pl kd xs i).length, .int .i64 0], _, FinOk.keep _ [1] (Sub.tuples ⟨Sub.sl _ _ _ _ _, Sub.refl _, trivial⟩) (by decide) rfl, .inr ⟨hP0, gb, Cb, rfl, rfl⟩⟩
end Go.Proofs.YtfohedaadncefaaDoor.HBT
