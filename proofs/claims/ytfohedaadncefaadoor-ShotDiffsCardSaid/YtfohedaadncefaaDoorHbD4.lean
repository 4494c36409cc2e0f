/- The contracts of the shot's small texts: kinds, sizes, below, search. -/
import Derived.Test.YtfohedaadncefaaDoorHbD6
namespace Go.Proofs.YtfohedaadncefaaDoor.HBT
open Go Go.Proofs.YtfohedaadncefaaDoor.HB Go.RowKit
set_option maxRecDepth 8000

theorem isKind_spec (k : Int) : FnSpec C 30 [.int .i64 k] [] (fun r L' => r = .bool (decide (k = 1 ∨ k = 2 ∨ k = 3)) ∧ L' = []) := by
  refine FnSpec.start C_ok Tryd.func30 rfl rfl Tryd.ntmps30 ?_
  repeat (first | refine Ops.cons ?_ | refine Ops.nil ?_ | refine And.intro rfl ?_ | refine And.intro (Nat.le_of_ble_eq_true rfl) ?_ | refine And.intro (Int.natCast_nonneg _) ?_ | refine fun (_ : Nat) => ?_ | refine Ord.quiet rfl ?_ | refine Ord.loud rfl ?_ | refine Ord.nil ?_ | refine Run.seq ?_ | refine Run.text ?_ | refine Run.cond ?_ | refine Run.blk ?_ | refine Run.skip ?_ | refine Run.ret ?_ | refine Run.exit ?_ | refine Cont.seq ?_ | refine Cont.seq_ret ?_ | refine Cont.seq_exit ?_ | refine Cont.blk ?_ | refine Cont.blk_ret ?_ | refine Cont.blk_exit ?_ | refine Cont.lp_ret ?_ | refine Cont.lp_exit ?_ | refine Cont.nil ?_ | refine Cont.op rfl ?_ | refine OrdP.cons rfl ?_ | refine OrdP.nil ?_ | refine Run.scope ?_ | refine Run.label ?_ | refine Cont.sc ?_ | refine Cont.sc_ret ?_ | refine Cont.sc_exit ?_)
  refine ⟨fun h => ?_, fun h => ?_⟩
  · have h : k = 1 := h
    repeat (first | refine Ops.cons ?_ | refine Ops.nil ?_ | refine And.intro rfl ?_ | refine And.intro (Nat.le_of_ble_eq_true rfl) ?_ | refine And.intro (Int.natCast_nonneg _) ?_ | refine fun (_ : Nat) => ?_ | refine Ord.quiet rfl ?_ | refine Ord.loud rfl ?_ | refine Ord.nil ?_ | refine Run.seq ?_ | refine Run.text ?_ | refine Run.cond ?_ | refine Run.blk ?_ | refine Run.skip ?_ | refine Run.ret ?_ | refine Run.exit ?_ | refine Cont.seq ?_ | refine Cont.seq_ret ?_ | refine Cont.seq_exit ?_ | refine Cont.blk ?_ | refine Cont.blk_ret ?_ | refine Cont.blk_exit ?_ | refine Cont.lp_ret ?_ | refine Cont.lp_exit ?_ | refine Cont.nil ?_ | refine Cont.op rfl ?_ | refine OrdP.cons rfl ?_ | refine OrdP.nil ?_ | refine Run.scope ?_ | refine Run.label ?_ | refine Cont.sc ?_ | refine Cont.sc_ret ?_ | refine Cont.sc_exit ?_)
    exact ⟨_, [], FinOk.drop _ _, congrArg AV.bool (show true = _ by simp [h]), rfl⟩
  have h1 : ¬ k = 1 := h
  repeat (first | refine Ops.cons ?_ | refine Ops.nil ?_ | refine And.intro rfl ?_ | refine And.intro (Nat.le_of_ble_eq_true rfl) ?_ | refine And.intro (Int.natCast_nonneg _) ?_ | refine fun (_ : Nat) => ?_ | refine Ord.quiet rfl ?_ | refine Ord.loud rfl ?_ | refine Ord.nil ?_ | refine Run.seq ?_ | refine Run.text ?_ | refine Run.cond ?_ | refine Run.blk ?_ | refine Run.skip ?_ | refine Run.ret ?_ | refine Run.exit ?_ | refine Cont.seq ?_ | refine Cont.seq_ret ?_ | refine Cont.seq_exit ?_ | refine Cont.blk ?_ | refine Cont.blk_ret ?_ | refine Cont.blk_exit ?_ | refine Cont.lp_ret ?_ | refine Cont.lp_exit ?_ | refine Cont.nil ?_ | refine Cont.op rfl ?_ | refine OrdP.cons rfl ?_ | refine OrdP.nil ?_ | refine Run.scope ?_ | refine Run.label ?_ | refine Cont.sc ?_ | refine Cont.sc_ret ?_ | refine Cont.sc_exit ?_)
  refine ⟨fun h => ?_, fun h => ?_⟩
  · have h : k = 2 := h
    repeat (first | refine Ops.cons ?_ | refine Ops.nil ?_ | refine And.intro rfl ?_ | refine And.intro (Nat.le_of_ble_eq_true rfl) ?_ | refine And.intro (Int.natCast_nonneg _) ?_ | refine fun (_ : Nat) => ?_ | refine Ord.quiet rfl ?_ | refine Ord.loud rfl ?_ | refine Ord.nil ?_ | refine Run.seq ?_ | refine Run.text ?_ | refine Run.cond ?_ | refine Run.blk ?_ | refine Run.skip ?_ | refine Run.ret ?_ | refine Run.exit ?_ | refine Cont.seq ?_ | refine Cont.seq_ret ?_ | refine Cont.seq_exit ?_ | refine Cont.blk ?_ | refine Cont.blk_ret ?_ | refine Cont.blk_exit ?_ | refine Cont.lp_ret ?_ | refine Cont.lp_exit ?_ | refine Cont.nil ?_ | refine Cont.op rfl ?_ | refine OrdP.cons rfl ?_ | refine OrdP.nil ?_ | refine Run.scope ?_ | refine Run.label ?_ | refine Cont.sc ?_ | refine Cont.sc_ret ?_ | refine Cont.sc_exit ?_)
    exact ⟨_, [], FinOk.drop _ _, congrArg AV.bool (show true = _ by simp [h]), rfl⟩
  have h2 : ¬ k = 2 := h
  repeat (first | refine Ops.cons ?_ | refine Ops.nil ?_ | refine And.intro rfl ?_ | refine And.intro (Nat.le_of_ble_eq_true rfl) ?_ | refine And.intro (Int.natCast_nonneg _) ?_ | refine fun (_ : Nat) => ?_ | refine Ord.quiet rfl ?_ | refine Ord.loud rfl ?_ | refine Ord.nil ?_ | refine Run.seq ?_ | refine Run.text ?_ | refine Run.cond ?_ | refine Run.blk ?_ | refine Run.skip ?_ | refine Run.ret ?_ | refine Run.exit ?_ | refine Cont.seq ?_ | refine Cont.seq_ret ?_ | refine Cont.seq_exit ?_ | refine Cont.blk ?_ | refine Cont.blk_ret ?_ | refine Cont.blk_exit ?_ | refine Cont.lp_ret ?_ | refine Cont.lp_exit ?_ | refine Cont.nil ?_ | refine Cont.op rfl ?_ | refine OrdP.cons rfl ?_ | refine OrdP.nil ?_ | refine Run.scope ?_ | refine Run.label ?_ | refine Cont.sc ?_ | refine Cont.sc_ret ?_ | refine Cont.sc_exit ?_)
  refine ⟨fun h => ?_, fun h => ?_⟩
  · have h : k = 3 := h
    repeat (first | refine Ops.cons ?_ | refine Ops.nil ?_ | refine And.intro rfl ?_ | refine And.intro (Nat.le_of_ble_eq_true rfl) ?_ | refine And.intro (Int.natCast_nonneg _) ?_ | refine fun (_ : Nat) => ?_ | refine Ord.quiet rfl ?_ | refine Ord.loud rfl ?_ | refine Ord.nil ?_ | refine Run.seq ?_ | refine Run.text ?_ | refine Run.cond ?_ | refine Run.blk ?_ | refine Run.skip ?_ | refine Run.ret ?_ | refine Run.exit ?_ | refine Cont.seq ?_ | refine Cont.seq_ret ?_ | refine Cont.seq_exit ?_ | refine Cont.blk ?_ | refine Cont.blk_ret ?_ | refine Cont.blk_exit ?_ | refine Cont.lp_ret ?_ | refine Cont.lp_exit ?_ | refine Cont.nil ?_ | refine Cont.op rfl ?_ | refine OrdP.cons rfl ?_ | refine OrdP.nil ?_ | refine Run.scope ?_ | refine Run.label ?_ | refine Cont.sc ?_ | refine Cont.sc_ret ?_ | refine Cont.sc_exit ?_)
    exact ⟨_, [], FinOk.drop _ _, congrArg AV.bool (show true = _ by simp [h]), rfl⟩
  have h3 : ¬ k = 3 := h
  repeat (first | refine Ops.cons ?_ | refine Ops.nil ?_ | refine And.intro rfl ?_ | refine And.intro (Nat.le_of_ble_eq_true rfl) ?_ | refine And.intro (Int.natCast_nonneg _) ?_ | refine fun (_ : Nat) => ?_ | refine Ord.quiet rfl ?_ | refine Ord.loud rfl ?_ | refine Ord.nil ?_ | refine Run.seq ?_ | refine Run.text ?_ | refine Run.cond ?_ | refine Run.blk ?_ | refine Run.skip ?_ | refine Run.ret ?_ | refine Run.exit ?_ | refine Cont.seq ?_ | refine Cont.seq_ret ?_ | refine Cont.seq_exit ?_ | refine Cont.blk ?_ | refine Cont.blk_ret ?_ | refine Cont.blk_exit ?_ | refine Cont.lp_ret ?_ | refine Cont.lp_exit ?_ | refine Cont.nil ?_ | refine Cont.op rfl ?_ | refine OrdP.cons rfl ?_ | refine OrdP.nil ?_ | refine Run.scope ?_ | refine Run.label ?_ | refine Cont.sc ?_ | refine Cont.sc_ret ?_ | refine Cont.sc_exit ?_)
  exact ⟨_, [], FinOk.drop _ _, congrArg AV.bool (show false = _ by simp [h1, h2, h3]), rfl⟩

theorem fits_spec (d : ByteArray) (v : Int) : FnSpec C 31 [.str d, .int .i64 v] [] (fun r L' => r = .bool (decide (d.size ≤ 64 ∧ 0 ≤ v ∧ v ≤ 2147483647)) ∧ L' = []) := by
  refine FnSpec.start C_ok Tryd.func31 rfl rfl Tryd.ntmps31 ?_
  repeat (first | refine Ops.cons ?_ | refine Ops.nil ?_ | refine And.intro rfl ?_ | refine And.intro (Nat.le_of_ble_eq_true rfl) ?_ | refine And.intro (Int.natCast_nonneg _) ?_ | refine fun (_ : Nat) => ?_ | refine Ord.quiet rfl ?_ | refine Ord.loud rfl ?_ | refine Ord.nil ?_ | refine Run.seq ?_ | refine Run.text ?_ | refine Run.cond ?_ | refine Run.blk ?_ | refine Run.skip ?_ | refine Run.ret ?_ | refine Run.exit ?_ | refine Cont.seq ?_ | refine Cont.seq_ret ?_ | refine Cont.seq_exit ?_ | refine Cont.blk ?_ | refine Cont.blk_ret ?_ | refine Cont.blk_exit ?_ | refine Cont.lp_ret ?_ | refine Cont.lp_exit ?_ | refine Cont.nil ?_ | refine Cont.op rfl ?_ | refine OrdP.cons rfl ?_ | refine OrdP.nil ?_ | refine Run.scope ?_ | refine Run.label ?_ | refine Cont.sc ?_ | refine Cont.sc_ret ?_ | refine Cont.sc_exit ?_)
  refine ⟨fun h => ?_, fun h => ?_⟩
  case' refine_2 =>
    repeat (first | refine Ops.cons ?_ | refine Ops.nil ?_ | refine And.intro rfl ?_ | refine And.intro (Nat.le_of_ble_eq_true rfl) ?_ | refine And.intro (Int.natCast_nonneg _) ?_ | refine fun (_ : Nat) => ?_ | refine Ord.quiet rfl ?_ | refine Ord.loud rfl ?_ | refine Ord.nil ?_ | refine Run.seq ?_ | refine Run.text ?_ | refine Run.cond ?_ | refine Run.blk ?_ | refine Run.skip ?_ | refine Run.ret ?_ | refine Run.exit ?_ | refine Cont.seq ?_ | refine Cont.seq_ret ?_ | refine Cont.seq_exit ?_ | refine Cont.blk ?_ | refine Cont.blk_ret ?_ | refine Cont.blk_exit ?_ | refine Cont.lp_ret ?_ | refine Cont.lp_exit ?_ | refine Cont.nil ?_ | refine Cont.op rfl ?_ | refine OrdP.cons rfl ?_ | refine OrdP.nil ?_ | refine Run.scope ?_ | refine Run.label ?_ | refine Cont.sc ?_ | refine Cont.sc_ret ?_ | refine Cont.sc_exit ?_)
    exact ⟨_, [], FinOk.drop _ _, congrArg AV.bool (show false = _ by
      have h : ¬ (d.size : Int) ≤ 64 := h
      symm; rw [decide_eq_false_iff_not]; omega), rfl⟩
  have h1 : (d.size : Int) ≤ 64 := h
  repeat (first | refine Ops.cons ?_ | refine Ops.nil ?_ | refine And.intro rfl ?_ | refine And.intro (Nat.le_of_ble_eq_true rfl) ?_ | refine And.intro (Int.natCast_nonneg _) ?_ | refine fun (_ : Nat) => ?_ | refine Ord.quiet rfl ?_ | refine Ord.loud rfl ?_ | refine Ord.nil ?_ | refine Run.seq ?_ | refine Run.text ?_ | refine Run.cond ?_ | refine Run.blk ?_ | refine Run.skip ?_ | refine Run.ret ?_ | refine Run.exit ?_ | refine Cont.seq ?_ | refine Cont.seq_ret ?_ | refine Cont.seq_exit ?_ | refine Cont.blk ?_ | refine Cont.blk_ret ?_ | refine Cont.blk_exit ?_ | refine Cont.lp_ret ?_ | refine Cont.lp_exit ?_ | refine Cont.nil ?_ | refine Cont.op rfl ?_ | refine OrdP.cons rfl ?_ | refine OrdP.nil ?_ | refine Run.scope ?_ | refine Run.label ?_ | refine Cont.sc ?_ | refine Cont.sc_ret ?_ | refine Cont.sc_exit ?_)
  refine ⟨fun h => ?_, fun h => ?_⟩
  case' refine_2 =>
    repeat (first | refine Ops.cons ?_ | refine Ops.nil ?_ | refine And.intro rfl ?_ | refine And.intro (Nat.le_of_ble_eq_true rfl) ?_ | refine And.intro (Int.natCast_nonneg _) ?_ | refine fun (_ : Nat) => ?_ | refine Ord.quiet rfl ?_ | refine Ord.loud rfl ?_ | refine Ord.nil ?_ | refine Run.seq ?_ | refine Run.text ?_ | refine Run.cond ?_ | refine Run.blk ?_ | refine Run.skip ?_ | refine Run.ret ?_ | refine Run.exit ?_ | refine Cont.seq ?_ | refine Cont.seq_ret ?_ | refine Cont.seq_exit ?_ | refine Cont.blk ?_ | refine Cont.blk_ret ?_ | refine Cont.blk_exit ?_ | refine Cont.lp_ret ?_ | refine Cont.lp_exit ?_ | refine Cont.nil ?_ | refine Cont.op rfl ?_ | refine OrdP.cons rfl ?_ | refine OrdP.nil ?_ | refine Run.scope ?_ | refine Run.label ?_ | refine Cont.sc ?_ | refine Cont.sc_ret ?_ | refine Cont.sc_exit ?_)
    exact ⟨_, [], FinOk.drop _ _, congrArg AV.bool (show false = _ by
      have h : ¬ (0 : Int) ≤ v := h
      symm; rw [decide_eq_false_iff_not]; omega), rfl⟩
  have h2 : (0 : Int) ≤ v := h
  repeat (first | refine Ops.cons ?_ | refine Ops.nil ?_ | refine And.intro rfl ?_ | refine And.intro (Nat.le_of_ble_eq_true rfl) ?_ | refine And.intro (Int.natCast_nonneg _) ?_ | refine fun (_ : Nat) => ?_ | refine Ord.quiet rfl ?_ | refine Ord.loud rfl ?_ | refine Ord.nil ?_ | refine Run.seq ?_ | refine Run.text ?_ | refine Run.cond ?_ | refine Run.blk ?_ | refine Run.skip ?_ | refine Run.ret ?_ | refine Run.exit ?_ | refine Cont.seq ?_ | refine Cont.seq_ret ?_ | refine Cont.seq_exit ?_ | refine Cont.blk ?_ | refine Cont.blk_ret ?_ | refine Cont.blk_exit ?_ | refine Cont.lp_ret ?_ | refine Cont.lp_exit ?_ | refine Cont.nil ?_ | refine Cont.op rfl ?_ | refine OrdP.cons rfl ?_ | refine OrdP.nil ?_ | refine Run.scope ?_ | refine Run.label ?_ | refine Cont.sc ?_ | refine Cont.sc_ret ?_ | refine Cont.sc_exit ?_)
  refine ⟨fun h => ?_, fun h => ?_⟩
  case' refine_2 =>
    repeat (first | refine Ops.cons ?_ | refine Ops.nil ?_ | refine And.intro rfl ?_ | refine And.intro (Nat.le_of_ble_eq_true rfl) ?_ | refine And.intro (Int.natCast_nonneg _) ?_ | refine fun (_ : Nat) => ?_ | refine Ord.quiet rfl ?_ | refine Ord.loud rfl ?_ | refine Ord.nil ?_ | refine Run.seq ?_ | refine Run.text ?_ | refine Run.cond ?_ | refine Run.blk ?_ | refine Run.skip ?_ | refine Run.ret ?_ | refine Run.exit ?_ | refine Cont.seq ?_ | refine Cont.seq_ret ?_ | refine Cont.seq_exit ?_ | refine Cont.blk ?_ | refine Cont.blk_ret ?_ | refine Cont.blk_exit ?_ | refine Cont.lp_ret ?_ | refine Cont.lp_exit ?_ | refine Cont.nil ?_ | refine Cont.op rfl ?_ | refine OrdP.cons rfl ?_ | refine OrdP.nil ?_ | refine Run.scope ?_ | refine Run.label ?_ | refine Cont.sc ?_ | refine Cont.sc_ret ?_ | refine Cont.sc_exit ?_)
    exact ⟨_, [], FinOk.drop _ _, congrArg AV.bool (show false = _ by
      have h : ¬ v ≤ 2147483647 := h
      symm; rw [decide_eq_false_iff_not]; omega), rfl⟩
  have h3 : v ≤ 2147483647 := h
  repeat (first | refine Ops.cons ?_ | refine Ops.nil ?_ | refine And.intro rfl ?_ | refine And.intro (Nat.le_of_ble_eq_true rfl) ?_ | refine And.intro (Int.natCast_nonneg _) ?_ | refine fun (_ : Nat) => ?_ | refine Ord.quiet rfl ?_ | refine Ord.loud rfl ?_ | refine Ord.nil ?_ | refine Run.seq ?_ | refine Run.text ?_ | refine Run.cond ?_ | refine Run.blk ?_ | refine Run.skip ?_ | refine Run.ret ?_ | refine Run.exit ?_ | refine Cont.seq ?_ | refine Cont.seq_ret ?_ | refine Cont.seq_exit ?_ | refine Cont.blk ?_ | refine Cont.blk_ret ?_ | refine Cont.blk_exit ?_ | refine Cont.lp_ret ?_ | refine Cont.lp_exit ?_ | refine Cont.nil ?_ | refine Cont.op rfl ?_ | refine OrdP.cons rfl ?_ | refine OrdP.nil ?_ | refine Run.scope ?_ | refine Run.label ?_ | refine Cont.sc ?_ | refine Cont.sc_ret ?_ | refine Cont.sc_exit ?_)
  exact ⟨_, [], FinOk.drop _ _, congrArg AV.bool (show true = _ by symm; rw [decide_eq_true_iff]; omega), rfl⟩

/-- Is the first place below the second one; is that its parent? -/
def belowB (low high : ByteArray) : Prop := parseE low = 0 ∧ ∃ j, j < (namesOf low).length ∧ high = placedB ((namesOf low).take j)
def childB (low high : ByteArray) : Prop := parentE low = 0 ∧ parentB low = high
noncomputable instance (low high : ByteArray) : Decidable (belowB low high) := Classical.propDecidable _
noncomputable instance (low high : ByteArray) : Decidable (childB low high) := Classical.propDecidable _

theorem parent_of {s : ByteArray} (h : parseE s = 0) : parentE s = (if namesOf s = [] then 47 else 0) ∧ (namesOf s ≠ [] → parentB s = placedB ((namesOf s).take ((namesOf s).length - 1))) := by
  obtain ⟨hok, e⟩ := place_names h
  have := parent_placed hok
  rw [← e] at this
  exact this
theorem parent_bad {s : ByteArray} (h : parseE s ≠ 0) : parentE s = parseE s := by unfold parentE; rw [if_pos h]
theorem child_below {low high : ByteArray} (h : childB low high) : belowB low high := by
  obtain ⟨h1, h2⟩ := h
  by_cases hp : parseE low = 0
  · obtain ⟨e1, e2⟩ := parent_of hp
    by_cases hn : namesOf low = []
    · rw [e1, if_pos hn] at h1; cases h1
    · have : 0 < (namesOf low).length := List.length_pos_iff.2 hn
      exact ⟨hp, (namesOf low).length - 1, by omega, by rw [← h2, e2 hn]⟩
  · rw [parent_bad hp] at h1; exact absurd h1 hp

theorem isBelow_spec (low high : ByteArray) : FnSpec C 61 [.str low, .str high] [] (fun r L' => r = .tuple [.bool (decide (belowB low high)), .bool (decide (childB low high))] ∧ L' = []) := by
  refine FnSpec.start C_ok Tryd.func61 rfl rfl Tryd.ntmps61 ?_
  repeat (first | refine Ops.cons ?_ | refine Ops.nil ?_ | refine And.intro rfl ?_ | refine And.intro (Nat.le_of_ble_eq_true rfl) ?_ | refine And.intro (Int.natCast_nonneg _) ?_ | refine fun (_ : Nat) => ?_ | refine Ord.quiet rfl ?_ | refine Ord.loud rfl ?_ | refine Ord.nil ?_ | refine Run.seq ?_ | refine Run.text ?_ | refine Run.cond ?_ | refine Run.blk ?_ | refine Run.skip ?_ | refine Run.ret ?_ | refine Run.exit ?_ | refine Cont.seq ?_ | refine Cont.seq_ret ?_ | refine Cont.seq_exit ?_ | refine Cont.blk ?_ | refine Cont.blk_ret ?_ | refine Cont.blk_exit ?_ | refine Cont.lp_ret ?_ | refine Cont.lp_exit ?_ | refine Cont.nil ?_ | refine Cont.op rfl ?_ | refine OrdP.cons rfl ?_ | refine OrdP.nil ?_ | refine Run.scope ?_ | refine Run.label ?_ | refine Cont.sc ?_ | refine Cont.sc_ret ?_ | refine Cont.sc_exit ?_)
  refine ACall.ret (parent_spec low) ?_
  repeat (first | refine Ops.cons ?_ | refine Ops.nil ?_ | refine And.intro rfl ?_ | refine And.intro (Nat.le_of_ble_eq_true rfl) ?_ | refine And.intro (Int.natCast_nonneg _) ?_ | refine fun (_ : Nat) => ?_ | refine Ord.quiet rfl ?_ | refine Ord.loud rfl ?_ | refine Ord.nil ?_ | refine Run.seq ?_ | refine Run.text ?_ | refine Run.cond ?_ | refine Run.blk ?_ | refine Run.skip ?_ | refine Run.ret ?_ | refine Run.exit ?_ | refine Cont.seq ?_ | refine Cont.seq_ret ?_ | refine Cont.seq_exit ?_ | refine Cont.blk ?_ | refine Cont.blk_ret ?_ | refine Cont.blk_exit ?_ | refine Cont.lp_ret ?_ | refine Cont.lp_exit ?_ | refine Cont.nil ?_ | refine Cont.op rfl ?_ | refine OrdP.cons rfl ?_ | refine OrdP.nil ?_ | refine Run.scope ?_ | refine Run.label ?_ | refine Cont.sc ?_ | refine Cont.sc_ret ?_ | refine Cont.sc_exit ?_)
  let S : Nat → Bool → ByteArray → Int → Prop := fun k b up e => (k = 0 ∧ e ≠ 0 ∧ ¬ belowB low high) ∨ (∃ j, k = j + 1 ∧ parseE low = 0 ∧ j < (namesOf low).length ∧ up = placedB ((namesOf low).take j) ∧ e = 0 ∧ b = decide (j + 1 < (namesOf low).length) ∧ ∀ j', j < j' → j' < (namesOf low).length → high ≠ placedB ((namesOf low).take j'))
  have start : ∃ k, S k false (parentB low) (parentE low) := by
    by_cases hp : parseE low = 0
    · obtain ⟨e1, e2⟩ := parent_of hp
      by_cases hn : namesOf low = []
      · exact ⟨0, .inl ⟨rfl, by rw [e1, if_pos hn]; decide, fun ⟨_, j, hj, _⟩ => by rw [hn] at hj; cases hj⟩⟩
      · have hpos : 0 < (namesOf low).length := List.length_pos_iff.2 hn
        exact ⟨_, .inr ⟨(namesOf low).length - 1, rfl, hp, by omega, e2 hn, by rw [e1, if_neg hn], by symm; rw [decide_eq_false_iff_not]; omega, fun j' h1 h2 => by omega⟩⟩
    · exact ⟨0, .inl ⟨rfl, by rw [parent_bad hp]; exact hp, fun h => hp h.1⟩⟩
  obtain ⟨k0, hk0⟩ := start
  refine Run.loop (fun k env L => ∃ b up e, S k b up e ∧ env = [.junk, .str high, .junk, .junk, .bool b, .junk, .str up, .int .i64 e, .junk, .junk, .junk, .junk, .junk, .junk, .junk, .junk, .junk, .junk, .junk, .junk, .junk, .junk, .junk, .junk, .junk] ∧ L = []) k0 [.junk, .str high, .junk, .junk, .bool false, .junk, .str (parentB low), .int .i64 (parentE low), .junk, .junk, .junk, .junk, .junk, .junk, .junk, .junk, .junk, .junk, .junk, .junk, .junk, .junk, .junk, .junk, .junk] ?_ ⟨_, _, _, hk0, rfl, rfl⟩ ?_
  · repeat (first | exact trivial | refine ⟨.inl rfl, ?_⟩ | refine ⟨.inr rfl, ?_⟩)
  rintro k env L ⟨b, up, e, hS, rfl, rfl⟩
  repeat (first | refine Ops.cons ?_ | refine Ops.nil ?_ | refine And.intro rfl ?_ | refine And.intro (Nat.le_of_ble_eq_true rfl) ?_ | refine And.intro (Int.natCast_nonneg _) ?_ | refine fun (_ : Nat) => ?_ | refine Ord.quiet rfl ?_ | refine Ord.loud rfl ?_ | refine Ord.nil ?_ | refine Run.seq ?_ | refine Run.text ?_ | refine Run.cond ?_ | refine Run.blk ?_ | refine Run.skip ?_ | refine Run.ret ?_ | refine Run.exit ?_ | refine Cont.seq ?_ | refine Cont.seq_ret ?_ | refine Cont.seq_exit ?_ | refine Cont.blk ?_ | refine Cont.blk_ret ?_ | refine Cont.blk_exit ?_ | refine Cont.lp_ret ?_ | refine Cont.lp_exit ?_ | refine Cont.nil ?_ | refine Cont.op rfl ?_ | refine OrdP.cons rfl ?_ | refine OrdP.nil ?_ | refine Run.scope ?_ | refine Run.label ?_ | refine Cont.sc ?_ | refine Cont.sc_ret ?_ | refine Cont.sc_exit ?_)
  refine ⟨fun h => ?_, fun h => ?_⟩
  · have h : e = 0 := h
    rcases hS with ⟨_, he, _⟩ | ⟨j, rfl, hp, hj, rfl, _, rfl, hup⟩
    · exact absurd h he
    subst h
    obtain ⟨hok, hlow⟩ := place_names hp
    repeat (first | refine Ops.cons ?_ | refine Ops.nil ?_ | refine And.intro rfl ?_ | refine And.intro (Nat.le_of_ble_eq_true rfl) ?_ | refine And.intro (Int.natCast_nonneg _) ?_ | refine fun (_ : Nat) => ?_ | refine Ord.quiet rfl ?_ | refine Ord.loud rfl ?_ | refine Ord.nil ?_ | refine Run.seq ?_ | refine Run.text ?_ | refine Run.cond ?_ | refine Run.blk ?_ | refine Run.skip ?_ | refine Run.ret ?_ | refine Run.exit ?_ | refine Cont.seq ?_ | refine Cont.seq_ret ?_ | refine Cont.seq_exit ?_ | refine Cont.blk ?_ | refine Cont.blk_ret ?_ | refine Cont.blk_exit ?_ | refine Cont.lp_ret ?_ | refine Cont.lp_exit ?_ | refine Cont.nil ?_ | refine Cont.op rfl ?_ | refine OrdP.cons rfl ?_ | refine OrdP.nil ?_ | refine Run.scope ?_ | refine Run.label ?_ | refine Cont.sc ?_ | refine Cont.sc_ret ?_ | refine Cont.sc_exit ?_)
    refine ⟨fun hh => ?_, fun hh => ?_⟩
    · have hh : placedB ((namesOf low).take j) = high := hh
      have hb : belowB low high := ⟨hp, j, hj, hh.symm⟩
      have hc : childB low high ↔ ¬ j + 1 < (namesOf low).length := by
        obtain ⟨e1, e2⟩ := parent_of hp
        have hn : namesOf low ≠ [] := fun e => by rw [e] at hj; cases hj
        unfold childB
        rw [e1, if_neg hn, e2 hn, ← hh]
        constructor
        · rintro ⟨_, h2⟩ h3
          have := congrArg List.length (placed_inj (hok.take _) (hok.take _) h2)
          rw [List.length_take, List.length_take] at this
          omega
        · intro h3
          exact ⟨rfl, by rw [show (namesOf low).length - 1 = j by omega]⟩
      have hcb : decide (childB low high) = !decide (j + 1 < (namesOf low).length) := by
        rw [Bool.eq_iff_iff, decide_eq_true_iff, Bool.not_eq_true', decide_eq_false_iff_not]
        exact hc
      repeat (first | refine Ops.cons ?_ | refine Ops.nil ?_ | refine And.intro rfl ?_ | refine And.intro (Nat.le_of_ble_eq_true rfl) ?_ | refine And.intro (Int.natCast_nonneg _) ?_ | refine fun (_ : Nat) => ?_ | refine Ord.quiet rfl ?_ | refine Ord.loud rfl ?_ | refine Ord.nil ?_ | refine Run.seq ?_ | refine Run.text ?_ | refine Run.cond ?_ | refine Run.blk ?_ | refine Run.skip ?_ | refine Run.ret ?_ | refine Run.exit ?_ | refine Cont.seq ?_ | refine Cont.seq_ret ?_ | refine Cont.seq_exit ?_ | refine Cont.blk ?_ | refine Cont.blk_ret ?_ | refine Cont.blk_exit ?_ | refine Cont.lp_ret ?_ | refine Cont.lp_exit ?_ | refine Cont.nil ?_ | refine Cont.op rfl ?_ | refine OrdP.cons rfl ?_ | refine OrdP.nil ?_ | refine Run.scope ?_ | refine Run.label ?_ | refine Cont.sc ?_ | refine Cont.sc_ret ?_ | refine Cont.sc_exit ?_)
      exact ⟨_, [], FinOk.drop _ _, by rw [decide_eq_true hb, hcb]; rfl, rfl⟩
    · have hh : ¬ placedB ((namesOf low).take j) = high := hh
      have hok' := hok.take j
      obtain ⟨q1, q2⟩ := names_placed hok'
      obtain ⟨p1, p2⟩ := parent_placed hok'
      repeat (first | refine Ops.cons ?_ | refine Ops.nil ?_ | refine And.intro rfl ?_ | refine And.intro (Nat.le_of_ble_eq_true rfl) ?_ | refine And.intro (Int.natCast_nonneg _) ?_ | refine fun (_ : Nat) => ?_ | refine Ord.quiet rfl ?_ | refine Ord.loud rfl ?_ | refine Ord.nil ?_ | refine Run.seq ?_ | refine Run.text ?_ | refine Run.cond ?_ | refine Run.blk ?_ | refine Run.skip ?_ | refine Run.ret ?_ | refine Run.exit ?_ | refine Cont.seq ?_ | refine Cont.seq_ret ?_ | refine Cont.seq_exit ?_ | refine Cont.blk ?_ | refine Cont.blk_ret ?_ | refine Cont.blk_exit ?_ | refine Cont.lp_ret ?_ | refine Cont.lp_exit ?_ | refine Cont.nil ?_ | refine Cont.op rfl ?_ | refine OrdP.cons rfl ?_ | refine OrdP.nil ?_ | refine Run.scope ?_ | refine Run.label ?_ | refine Cont.sc ?_ | refine Cont.sc_ret ?_ | refine Cont.sc_exit ?_)
      refine ACall.ret (parent_spec _) ?_
      repeat (first | refine Ops.cons ?_ | refine Ops.nil ?_ | refine And.intro rfl ?_ | refine And.intro (Nat.le_of_ble_eq_true rfl) ?_ | refine And.intro (Int.natCast_nonneg _) ?_ | refine fun (_ : Nat) => ?_ | refine Ord.quiet rfl ?_ | refine Ord.loud rfl ?_ | refine Ord.nil ?_ | refine Run.seq ?_ | refine Run.text ?_ | refine Run.cond ?_ | refine Run.blk ?_ | refine Run.skip ?_ | refine Run.ret ?_ | refine Run.exit ?_ | refine Cont.seq ?_ | refine Cont.seq_ret ?_ | refine Cont.seq_exit ?_ | refine Cont.blk ?_ | refine Cont.blk_ret ?_ | refine Cont.blk_exit ?_ | refine Cont.lp_ret ?_ | refine Cont.lp_exit ?_ | refine Cont.nil ?_ | refine Cont.op rfl ?_ | refine OrdP.cons rfl ?_ | refine OrdP.nil ?_ | refine Run.scope ?_ | refine Run.label ?_ | refine Cont.sc ?_ | refine Cont.sc_ret ?_ | refine Cont.sc_exit ?_)
      refine Cont.lp ?_
      by_cases h0 : j = 0
      · subst h0
        refine ⟨0, [.junk, .str high, .junk, .junk, .bool true, .junk, .str (parentB (placedB ((namesOf low).take 0))), .int .i64 (parentE (placedB ((namesOf low).take 0))), .junk, .junk, .junk, .junk, .junk, .junk, .junk, .junk, .junk, .junk, .junk, .junk, .junk, .junk, .junk, .junk, .junk], 99, by omega, ?_, ⟨_, _, _, .inl ⟨rfl, ?_, ?_⟩, rfl, rfl⟩⟩
        · repeat (first | exact trivial | refine ⟨.inl rfl, ?_⟩ | refine ⟨.inr rfl, ?_⟩)
        · rw [p1]; simp
        · rintro ⟨_, j', h1, h2⟩
          by_cases h3 : j' = 0
          · subst h3; exact hh h2.symm
          · exact hup j' (by omega) h1 h2
      · have hne : (namesOf low).take j ≠ [] := fun e => by
          have := congrArg List.length e
          rw [List.length_take, List.length_nil] at this
          omega
        have hlen : ((namesOf low).take j).length = j := by rw [List.length_take]; omega
        have htt : ((namesOf low).take j).take (((namesOf low).take j).length - 1) = (namesOf low).take (j - 1) := by rw [hlen, List.take_take]; congr 1; omega
        refine ⟨j - 1 + 1, [.junk, .str high, .junk, .junk, .bool true, .junk, .str (parentB (placedB ((namesOf low).take j))), .int .i64 (parentE (placedB ((namesOf low).take j))), .junk, .junk, .junk, .junk, .junk, .junk, .junk, .junk, .junk, .junk, .junk, .junk, .junk, .junk, .junk, .junk, .junk], 99, by omega, ?_, ⟨_, _, _, .inr ⟨j - 1, rfl, hp, by omega, ?_, ?_, ?_, ?_⟩, rfl, rfl⟩⟩
        · repeat (first | exact trivial | refine ⟨.inl rfl, ?_⟩ | refine ⟨.inr rfl, ?_⟩)
        · rw [p2 hne, htt]
        · rw [p1, if_neg hne]
        · symm; rw [decide_eq_true_iff]; omega
        · intro j' h1 h2 h3
          by_cases h4 : j' = j
          · subst h4; exact hh h3.symm
          · exact hup j' (by omega) h2 h3
  · have h : ¬ e = 0 := h
    rcases hS with ⟨_, _, hb⟩ | ⟨j, _, _, _, _, he, _⟩
    case inr => exact absurd he h
    have hc : ¬ childB low high := fun hc => hb (child_below hc)
    repeat (first | refine Ops.cons ?_ | refine Ops.nil ?_ | refine And.intro rfl ?_ | refine And.intro (Nat.le_of_ble_eq_true rfl) ?_ | refine And.intro (Int.natCast_nonneg _) ?_ | refine fun (_ : Nat) => ?_ | refine Ord.quiet rfl ?_ | refine Ord.loud rfl ?_ | refine Ord.nil ?_ | refine Run.seq ?_ | refine Run.text ?_ | refine Run.cond ?_ | refine Run.blk ?_ | refine Run.skip ?_ | refine Run.ret ?_ | refine Run.exit ?_ | refine Cont.seq ?_ | refine Cont.seq_ret ?_ | refine Cont.seq_exit ?_ | refine Cont.blk ?_ | refine Cont.blk_ret ?_ | refine Cont.blk_exit ?_ | refine Cont.lp_ret ?_ | refine Cont.lp_exit ?_ | refine Cont.nil ?_ | refine Cont.op rfl ?_ | refine OrdP.cons rfl ?_ | refine OrdP.nil ?_ | refine Run.scope ?_ | refine Run.label ?_ | refine Cont.sc ?_ | refine Cont.sc_ret ?_ | refine Cont.sc_exit ?_)
    exact ⟨_, [], FinOk.drop _ _, by rw [decide_eq_false hb, decide_eq_false hc]; rfl, rfl⟩

theorem has1_spec (p d : ByteArray) (v : Int) (at_ : ByteArray) (hp : p.size ≤ 9223372036854775807) : FnSpec C 87 [.agg [.str p, .str d, .int .i64 v], .str at_] [] (fun r L' => r = .int .i64 (orderB p at_) ∧ L' = []) := by
  refine FnSpec.start C_ok Tryd.func87 rfl rfl Tryd.ntmps87 ?_
  repeat (first | refine Ops.cons ?_ | refine Ops.nil ?_ | refine And.intro rfl ?_ | refine And.intro (Nat.le_of_ble_eq_true rfl) ?_ | refine And.intro (Int.natCast_nonneg _) ?_ | refine fun (_ : Nat) => ?_ | refine Ord.quiet rfl ?_ | refine Ord.loud rfl ?_ | refine Ord.nil ?_ | refine Run.seq ?_ | refine Run.text ?_ | refine Run.cond ?_ | refine Run.blk ?_ | refine Run.skip ?_ | refine Run.ret ?_ | refine Run.exit ?_ | refine Cont.seq ?_ | refine Cont.seq_ret ?_ | refine Cont.seq_exit ?_ | refine Cont.blk ?_ | refine Cont.blk_ret ?_ | refine Cont.blk_exit ?_ | refine Cont.lp_ret ?_ | refine Cont.lp_exit ?_ | refine Cont.nil ?_ | refine Cont.op rfl ?_ | refine OrdP.cons rfl ?_ | refine OrdP.nil ?_ | refine Run.scope ?_ | refine Run.label ?_ | refine Cont.sc ?_ | refine Cont.sc_ret ?_ | refine Cont.sc_exit ?_)
  refine ACall.ret (order_spec p at_ hp) ?_
  repeat (first | refine Ops.cons ?_ | refine Ops.nil ?_ | refine And.intro rfl ?_ | refine And.intro (Nat.le_of_ble_eq_true rfl) ?_ | refine And.intro (Int.natCast_nonneg _) ?_ | refine fun (_ : Nat) => ?_ | refine Ord.quiet rfl ?_ | refine Ord.loud rfl ?_ | refine Ord.nil ?_ | refine Run.seq ?_ | refine Run.text ?_ | refine Run.cond ?_ | refine Run.blk ?_ | refine Run.skip ?_ | refine Run.ret ?_ | refine Run.exit ?_ | refine Cont.seq ?_ | refine Cont.seq_ret ?_ | refine Cont.seq_exit ?_ | refine Cont.blk ?_ | refine Cont.blk_ret ?_ | refine Cont.blk_exit ?_ | refine Cont.lp_ret ?_ | refine Cont.lp_exit ?_ | refine Cont.nil ?_ | refine Cont.op rfl ?_ | refine OrdP.cons rfl ?_ | refine OrdP.nil ?_ | refine Run.scope ?_ | refine Run.label ?_ | refine Cont.sc ?_ | refine Cont.sc_ret ?_ | refine Cont.sc_exit ?_)
  exact ⟨_, [], FinOk.drop _ _, rfl, rfl⟩

structure Sn where
  p : ByteArray
  d : ByteArray
  v : Int
  deriving DecidableEq
def enc (s : Sn) : AV := .agg [.str s.p, .str s.d, .int .i64 s.v]
abbrev rdo (xs : List Sn) (n : Nat) : AV := .ro 3 (xs.map enc) n

theorem enc_at (xs : List Sn) (i : Nat) (x : Sn) (h : xs[i]? = some x) : (xs.map enc)[i]? = some (enc x) := by
  rw [List.getElem?_map, h]; rfl

/-- What a search finds: where the part that is less ends, if the list is in order; and whether the place stands there. -/
def Found (xs : List Sn) (n : Nat) (at_ : ByteArray) (i : Nat) (b : Bool) : Prop :=
  i ≤ n ∧ (i = 0 ∨ ∃ x, xs[i - 1]? = some x ∧ orderB x.p at_ < 0) ∧ (i = n ∨ ∃ x, xs[i]? = some x ∧ ¬ orderB x.p at_ < 0) ∧ (b = true ↔ i < n ∧ ∃ x, xs[i]? = some x ∧ orderB x.p at_ = 0)

theorem search_spec (xs : List Sn) (n : Nat) (hn : n ≤ xs.length) (hm : n ≤ 1000) (at_ : ByteArray) (hps : ∀ x ∈ xs, x.p.size ≤ 9223372036854775807) :
    FnSpec C 86 [rdo xs n, .str at_, .any (.func (.func 87) #[] #[])] [] (fun r L' => (∃ i b, Found xs n at_ i b ∧ r = .tuple [.int .i64 (i : Nat), .bool b]) ∧ L' = []) := by
  refine FnSpec.start C_ok Tryd.func86 rfl rfl Tryd.ntmps86 ?_
  repeat (first | refine Ops.cons ?_ | refine Ops.nil ?_ | refine And.intro rfl ?_ | refine And.intro (Nat.le_of_ble_eq_true rfl) ?_ | refine And.intro (Int.natCast_nonneg _) ?_ | refine fun (_ : Nat) => ?_ | refine Ord.quiet rfl ?_ | refine Ord.loud rfl ?_ | refine Ord.nil ?_ | refine Run.seq ?_ | refine Run.text ?_ | refine Run.cond ?_ | refine Run.blk ?_ | refine Run.skip ?_ | refine Run.ret ?_ | refine Run.exit ?_ | refine Cont.seq ?_ | refine Cont.seq_ret ?_ | refine Cont.seq_exit ?_ | refine Cont.blk ?_ | refine Cont.blk_ret ?_ | refine Cont.blk_exit ?_ | refine Cont.lp_ret ?_ | refine Cont.lp_exit ?_ | refine Cont.nil ?_ | refine Cont.op rfl ?_ | refine OrdP.cons rfl ?_ | refine OrdP.nil ?_ | refine Run.scope ?_ | refine Run.label ?_ | refine Cont.sc ?_ | refine Cont.sc_ret ?_ | refine Cont.sc_exit ?_)
  refine Run.loop (fun k env L => ∃ i j : Nat, k = j - i ∧ i ≤ j ∧ j ≤ n ∧ (i = 0 ∨ ∃ x, xs[i - 1]? = some x ∧ orderB x.p at_ < 0) ∧ (j = n ∨ ∃ x, xs[j]? = some x ∧ ¬ orderB x.p at_ < 0) ∧
      env = [rdo xs n, .str at_, .any (.func (.func 87) #[] #[]), .junk, .junk, .junk, .junk, .junk, .int .i64 n, .int .i64 i, .int .i64 j, .junk, .junk, .junk, .junk, .junk, .junk, .junk, .junk, .junk, .junk, .junk, .junk, .junk, .junk, .junk, .junk, .junk, .junk, .junk, .junk, .junk, .junk, .junk, .junk, .junk, .junk, .junk, .junk, .junk, .junk, .junk, .junk, .junk, .junk, .junk, .junk, .junk, .junk] ∧ L = []) n
    [rdo xs n, .str at_, .any (.func (.func 87) #[] #[]), .junk, .junk, .junk, .junk, .junk, .int .i64 n, .int .i64 0, .int .i64 n, .junk, .junk, .junk, .junk, .junk, .junk, .junk, .junk, .junk, .junk, .junk, .junk, .junk, .junk, .junk, .junk, .junk, .junk, .junk, .junk, .junk, .junk, .junk, .junk, .junk, .junk, .junk, .junk, .junk, .junk, .junk, .junk, .junk, .junk, .junk, .junk, .junk, .junk] ?_ ⟨0, n, by omega, by omega, by omega, .inl rfl, .inl rfl, rfl, rfl⟩ ?_
  · repeat (first | exact trivial | refine ⟨.inl rfl, ?_⟩ | refine ⟨.inr rfl, ?_⟩)
  rintro k env L ⟨i, j, rfl, hij, hjn, hi, hj, rfl, rfl⟩
  repeat (first | refine Ops.cons ?_ | refine Ops.nil ?_ | refine And.intro rfl ?_ | refine And.intro (Nat.le_of_ble_eq_true rfl) ?_ | refine And.intro (Int.natCast_nonneg _) ?_ | refine fun (_ : Nat) => ?_ | refine Ord.quiet rfl ?_ | refine Ord.loud rfl ?_ | refine Ord.nil ?_ | refine Run.seq ?_ | refine Run.text ?_ | refine Run.cond ?_ | refine Run.blk ?_ | refine Run.skip ?_ | refine Run.ret ?_ | refine Run.exit ?_ | refine Cont.seq ?_ | refine Cont.seq_ret ?_ | refine Cont.seq_exit ?_ | refine Cont.blk ?_ | refine Cont.blk_ret ?_ | refine Cont.blk_exit ?_ | refine Cont.lp_ret ?_ | refine Cont.lp_exit ?_ | refine Cont.nil ?_ | refine Cont.op rfl ?_ | refine OrdP.cons rfl ?_ | refine OrdP.nil ?_ | refine Run.scope ?_ | refine Run.label ?_ | refine Cont.sc ?_ | refine Cont.sc_ret ?_ | refine Cont.sc_exit ?_)
  refine ⟨fun h => ?_, fun h => ?_⟩
  · have h : (i : Int) < (j : Int) := h
    repeat (first | refine Ops.cons ?_ | refine Ops.nil ?_ | refine And.intro rfl ?_ | refine And.intro (Nat.le_of_ble_eq_true rfl) ?_ | refine And.intro (Int.natCast_nonneg _) ?_ | refine fun (_ : Nat) => ?_ | refine Ord.quiet rfl ?_ | refine Ord.loud rfl ?_ | refine Ord.nil ?_ | refine Run.seq ?_ | refine Run.text ?_ | refine Run.cond ?_ | refine Run.blk ?_ | refine Run.skip ?_ | refine Run.ret ?_ | refine Run.exit ?_ | refine Cont.seq ?_ | refine Cont.seq_ret ?_ | refine Cont.seq_exit ?_ | refine Cont.blk ?_ | refine Cont.blk_ret ?_ | refine Cont.blk_exit ?_ | refine Cont.lp_ret ?_ | refine Cont.lp_exit ?_ | refine Cont.nil ?_ | refine Cont.op rfl ?_ | refine OrdP.cons rfl ?_ | refine OrdP.nil ?_ | refine Run.scope ?_ | refine Run.label ?_ | refine Cont.sc ?_ | refine Cont.sc_ret ?_ | refine Cont.sc_exit ?_)
    refine fun r hr => ?_
    obtain rfl : r = ((i + j : Nat) : Int) := by rw [hr, IntKind.wrap_i64]; omega
    repeat (first | refine Ops.cons ?_ | refine Ops.nil ?_ | refine And.intro rfl ?_ | refine And.intro (Nat.le_of_ble_eq_true rfl) ?_ | refine And.intro (Int.natCast_nonneg _) ?_ | refine fun (_ : Nat) => ?_ | refine Ord.quiet rfl ?_ | refine Ord.loud rfl ?_ | refine Ord.nil ?_ | refine Run.seq ?_ | refine Run.text ?_ | refine Run.cond ?_ | refine Run.blk ?_ | refine Run.skip ?_ | refine Run.ret ?_ | refine Run.exit ?_ | refine Cont.seq ?_ | refine Cont.seq_ret ?_ | refine Cont.seq_exit ?_ | refine Cont.blk ?_ | refine Cont.blk_ret ?_ | refine Cont.blk_exit ?_ | refine Cont.lp_ret ?_ | refine Cont.lp_exit ?_ | refine Cont.nil ?_ | refine Cont.op rfl ?_ | refine OrdP.cons rfl ?_ | refine OrdP.nil ?_ | refine Run.scope ?_ | refine Run.label ?_ | refine Cont.sc ?_ | refine Cont.sc_ret ?_ | refine Cont.sc_exit ?_)
    refine fun r2 hr2 => ?_
    obtain rfl : r2 = ((i + j : Nat) : Int) := by rw [hr2, IntKind.wrap_u64]; omega
    repeat (first | refine Ops.cons ?_ | refine Ops.nil ?_ | refine And.intro rfl ?_ | refine And.intro (Nat.le_of_ble_eq_true rfl) ?_ | refine And.intro (Int.natCast_nonneg _) ?_ | refine fun (_ : Nat) => ?_ | refine Ord.quiet rfl ?_ | refine Ord.loud rfl ?_ | refine Ord.nil ?_ | refine Run.seq ?_ | refine Run.text ?_ | refine Run.cond ?_ | refine Run.blk ?_ | refine Run.skip ?_ | refine Run.ret ?_ | refine Run.exit ?_ | refine Cont.seq ?_ | refine Cont.seq_ret ?_ | refine Cont.seq_exit ?_ | refine Cont.blk ?_ | refine Cont.blk_ret ?_ | refine Cont.blk_exit ?_ | refine Cont.lp_ret ?_ | refine Cont.lp_exit ?_ | refine Cont.nil ?_ | refine Cont.op rfl ?_ | refine OrdP.cons rfl ?_ | refine OrdP.nil ?_ | refine Run.scope ?_ | refine Run.label ?_ | refine Cont.sc ?_ | refine Cont.sc_ret ?_ | refine Cont.sc_exit ?_)
    refine fun r3 hr3 => ?_
    obtain rfl : r3 = (((i + j) / 2 : Nat) : Int) := by
      rw [hr3]
      show Int.fdiv ((i + j : Nat) : Int) (2 ^ 1) = _
      rw [Int.fdiv_eq_ediv_of_nonneg _ (by decide)]
      omega
    repeat (first | refine Ops.cons ?_ | refine Ops.nil ?_ | refine And.intro rfl ?_ | refine And.intro (Nat.le_of_ble_eq_true rfl) ?_ | refine And.intro (Int.natCast_nonneg _) ?_ | refine fun (_ : Nat) => ?_ | refine Ord.quiet rfl ?_ | refine Ord.loud rfl ?_ | refine Ord.nil ?_ | refine Run.seq ?_ | refine Run.text ?_ | refine Run.cond ?_ | refine Run.blk ?_ | refine Run.skip ?_ | refine Run.ret ?_ | refine Run.exit ?_ | refine Cont.seq ?_ | refine Cont.seq_ret ?_ | refine Cont.seq_exit ?_ | refine Cont.blk ?_ | refine Cont.blk_ret ?_ | refine Cont.blk_exit ?_ | refine Cont.lp_ret ?_ | refine Cont.lp_exit ?_ | refine Cont.nil ?_ | refine Cont.op rfl ?_ | refine OrdP.cons rfl ?_ | refine OrdP.nil ?_ | refine Run.scope ?_ | refine Run.label ?_ | refine Cont.sc ?_ | refine Cont.sc_ret ?_ | refine Cont.sc_exit ?_)
    refine fun r4 hr4 => ?_
    obtain rfl : r4 = (((i + j) / 2 : Nat) : Int) := by rw [hr4, IntKind.wrap_i64]; omega
    generalize hmid : (i + j) / 2 = m
    have hm1 : i ≤ m := by omega
    have hm2 : m < j := by omega
    obtain ⟨x, ex⟩ : ∃ x, xs[m]? = some x := ⟨xs[m], List.getElem?_eq_getElem (by omega)⟩
    have hsz := hps x (List.mem_of_getElem? ex)
    repeat (first | refine Ops.cons ?_ | refine Ops.nil ?_ | refine And.intro rfl ?_ | refine And.intro (Nat.le_of_ble_eq_true rfl) ?_ | refine And.intro (Int.natCast_nonneg _) ?_ | refine fun (_ : Nat) => ?_ | refine Ord.quiet rfl ?_ | refine Ord.loud rfl ?_ | refine Ord.nil ?_ | refine Run.seq ?_ | refine Run.text ?_ | refine Run.cond ?_ | refine Run.blk ?_ | refine Run.skip ?_ | refine Run.ret ?_ | refine Run.exit ?_ | refine Cont.seq ?_ | refine Cont.seq_ret ?_ | refine Cont.seq_exit ?_ | refine Cont.blk ?_ | refine Cont.blk_ret ?_ | refine Cont.blk_exit ?_ | refine Cont.lp_ret ?_ | refine Cont.lp_exit ?_ | refine Cont.nil ?_ | refine Cont.op rfl ?_ | refine OrdP.cons rfl ?_ | refine OrdP.nil ?_ | refine Run.scope ?_ | refine Run.label ?_ | refine Cont.sc ?_ | refine Cont.sc_ret ?_ | refine Cont.sc_exit ?_)
    refine ⟨show (m : Int) < (n : Int) by omega, enc x, enc_at _ _ _ ex, ?_⟩
    repeat (first | refine Ops.cons ?_ | refine Ops.nil ?_ | refine And.intro rfl ?_ | refine And.intro (Nat.le_of_ble_eq_true rfl) ?_ | refine And.intro (Int.natCast_nonneg _) ?_ | refine fun (_ : Nat) => ?_ | refine Ord.quiet rfl ?_ | refine Ord.loud rfl ?_ | refine Ord.nil ?_ | refine Run.seq ?_ | refine Run.text ?_ | refine Run.cond ?_ | refine Run.blk ?_ | refine Run.skip ?_ | refine Run.ret ?_ | refine Run.exit ?_ | refine Cont.seq ?_ | refine Cont.seq_ret ?_ | refine Cont.seq_exit ?_ | refine Cont.blk ?_ | refine Cont.blk_ret ?_ | refine Cont.blk_exit ?_ | refine Cont.lp_ret ?_ | refine Cont.lp_exit ?_ | refine Cont.nil ?_ | refine Cont.op rfl ?_ | refine OrdP.cons rfl ?_ | refine OrdP.nil ?_ | refine Run.scope ?_ | refine Run.label ?_ | refine Cont.sc ?_ | refine Cont.sc_ret ?_ | refine Cont.sc_exit ?_)
    refine ACall.ret (has1_spec x.p x.d x.v at_ hsz) ?_
    repeat (first | refine Ops.cons ?_ | refine Ops.nil ?_ | refine And.intro rfl ?_ | refine And.intro (Nat.le_of_ble_eq_true rfl) ?_ | refine And.intro (Int.natCast_nonneg _) ?_ | refine fun (_ : Nat) => ?_ | refine Ord.quiet rfl ?_ | refine Ord.loud rfl ?_ | refine Ord.nil ?_ | refine Run.seq ?_ | refine Run.text ?_ | refine Run.cond ?_ | refine Run.blk ?_ | refine Run.skip ?_ | refine Run.ret ?_ | refine Run.exit ?_ | refine Cont.seq ?_ | refine Cont.seq_ret ?_ | refine Cont.seq_exit ?_ | refine Cont.blk ?_ | refine Cont.blk_ret ?_ | refine Cont.blk_exit ?_ | refine Cont.lp_ret ?_ | refine Cont.lp_exit ?_ | refine Cont.nil ?_ | refine Cont.op rfl ?_ | refine OrdP.cons rfl ?_ | refine OrdP.nil ?_ | refine Run.scope ?_ | refine Run.label ?_ | refine Cont.sc ?_ | refine Cont.sc_ret ?_ | refine Cont.sc_exit ?_)
    refine ⟨fun hc => ?_, fun hc => ?_⟩
    · have hc : orderB x.p at_ < 0 := hc
      repeat (first | refine Ops.cons ?_ | refine Ops.nil ?_ | refine And.intro rfl ?_ | refine And.intro (Nat.le_of_ble_eq_true rfl) ?_ | refine And.intro (Int.natCast_nonneg _) ?_ | refine fun (_ : Nat) => ?_ | refine Ord.quiet rfl ?_ | refine Ord.loud rfl ?_ | refine Ord.nil ?_ | refine Run.seq ?_ | refine Run.text ?_ | refine Run.cond ?_ | refine Run.blk ?_ | refine Run.skip ?_ | refine Run.ret ?_ | refine Run.exit ?_ | refine Cont.seq ?_ | refine Cont.seq_ret ?_ | refine Cont.seq_exit ?_ | refine Cont.blk ?_ | refine Cont.blk_ret ?_ | refine Cont.blk_exit ?_ | refine Cont.lp_ret ?_ | refine Cont.lp_exit ?_ | refine Cont.nil ?_ | refine Cont.op rfl ?_ | refine OrdP.cons rfl ?_ | refine OrdP.nil ?_ | refine Run.scope ?_ | refine Run.label ?_ | refine Cont.sc ?_ | refine Cont.sc_ret ?_ | refine Cont.sc_exit ?_)
      refine fun r5 hr5 => ?_
      obtain rfl := add1 hr5 (by omega)
      repeat (first | refine Ops.cons ?_ | refine Ops.nil ?_ | refine And.intro rfl ?_ | refine And.intro (Nat.le_of_ble_eq_true rfl) ?_ | refine And.intro (Int.natCast_nonneg _) ?_ | refine fun (_ : Nat) => ?_ | refine Ord.quiet rfl ?_ | refine Ord.loud rfl ?_ | refine Ord.nil ?_ | refine Run.seq ?_ | refine Run.text ?_ | refine Run.cond ?_ | refine Run.blk ?_ | refine Run.skip ?_ | refine Run.ret ?_ | refine Run.exit ?_ | refine Cont.seq ?_ | refine Cont.seq_ret ?_ | refine Cont.seq_exit ?_ | refine Cont.blk ?_ | refine Cont.blk_ret ?_ | refine Cont.blk_exit ?_ | refine Cont.lp_ret ?_ | refine Cont.lp_exit ?_ | refine Cont.nil ?_ | refine Cont.op rfl ?_ | refine OrdP.cons rfl ?_ | refine OrdP.nil ?_ | refine Run.scope ?_ | refine Run.label ?_ | refine Cont.sc ?_ | refine Cont.sc_ret ?_ | refine Cont.sc_exit ?_)
      refine Cont.lp ?_
      refine ⟨j - (m + 1), [rdo xs n, .str at_, .any (.func (.func 87) #[] #[]), .junk, .junk, .junk, .junk, .junk, .int .i64 n, .int .i64 (m + 1 : Nat), .int .i64 j, .junk, .junk, .junk, .junk, .junk, .junk, .junk, .junk, .junk, .junk, .junk, .junk, .junk, .junk, .junk, .junk, .junk, .junk, .junk, .junk, .junk, .junk, .junk, .junk, .junk, .junk, .junk, .junk, .junk, .junk, .junk, .junk, .junk, .junk, .junk, .junk, .junk, .junk], 99, by omega, ?_, ⟨m + 1, j, rfl, by omega, by omega, .inr ⟨x, ex, hc⟩, hj, rfl, rfl⟩⟩
      repeat (first | exact trivial | refine ⟨.inl rfl, ?_⟩ | refine ⟨.inr rfl, ?_⟩)
    · have hc : ¬ orderB x.p at_ < 0 := hc
      repeat (first | refine Ops.cons ?_ | refine Ops.nil ?_ | refine And.intro rfl ?_ | refine And.intro (Nat.le_of_ble_eq_true rfl) ?_ | refine And.intro (Int.natCast_nonneg _) ?_ | refine fun (_ : Nat) => ?_ | refine Ord.quiet rfl ?_ | refine Ord.loud rfl ?_ | refine Ord.nil ?_ | refine Run.seq ?_ | refine Run.text ?_ | refine Run.cond ?_ | refine Run.blk ?_ | refine Run.skip ?_ | refine Run.ret ?_ | refine Run.exit ?_ | refine Cont.seq ?_ | refine Cont.seq_ret ?_ | refine Cont.seq_exit ?_ | refine Cont.blk ?_ | refine Cont.blk_ret ?_ | refine Cont.blk_exit ?_ | refine Cont.lp_ret ?_ | refine Cont.lp_exit ?_ | refine Cont.nil ?_ | refine Cont.op rfl ?_ | refine OrdP.cons rfl ?_ | refine OrdP.nil ?_ | refine Run.scope ?_ | refine Run.label ?_ | refine Cont.sc ?_ | refine Cont.sc_ret ?_ | refine Cont.sc_exit ?_)
      refine Cont.lp ?_
      refine ⟨m - i, [rdo xs n, .str at_, .any (.func (.func 87) #[] #[]), .junk, .junk, .junk, .junk, .junk, .int .i64 n, .int .i64 i, .int .i64 m, .junk, .junk, .junk, .junk, .junk, .junk, .junk, .junk, .junk, .junk, .junk, .junk, .junk, .junk, .junk, .junk, .junk, .junk, .junk, .junk, .junk, .junk, .junk, .junk, .junk, .junk, .junk, .junk, .junk, .junk, .junk, .junk, .junk, .junk, .junk, .junk, .junk, .junk], 99, by omega, ?_, ⟨i, m, rfl, by omega, by omega, hi, .inr ⟨x, ex, hc⟩, rfl, rfl⟩⟩
      repeat (first | exact trivial | refine ⟨.inl rfl, ?_⟩ | refine ⟨.inr rfl, ?_⟩)
  · have h : ¬ (i : Int) < (j : Int) := h
    have hij2 : i = j := by omega
    subst hij2
    repeat (first | refine Ops.cons ?_ | refine Ops.nil ?_ | refine And.intro rfl ?_ | refine And.intro (Nat.le_of_ble_eq_true rfl) ?_ | refine And.intro (Int.natCast_nonneg _) ?_ | refine fun (_ : Nat) => ?_ | refine Ord.quiet rfl ?_ | refine Ord.loud rfl ?_ | refine Ord.nil ?_ | refine Run.seq ?_ | refine Run.text ?_ | refine Run.cond ?_ | refine Run.blk ?_ | refine Run.skip ?_ | refine Run.ret ?_ | refine Run.exit ?_ | refine Cont.seq ?_ | refine Cont.seq_ret ?_ | refine Cont.seq_exit ?_ | refine Cont.blk ?_ | refine Cont.blk_ret ?_ | refine Cont.blk_exit ?_ | refine Cont.lp_ret ?_ | refine Cont.lp_exit ?_ | refine Cont.nil ?_ | refine Cont.op rfl ?_ | refine OrdP.cons rfl ?_ | refine OrdP.nil ?_ | refine Run.scope ?_ | refine Run.label ?_ | refine Cont.sc ?_ | refine Cont.sc_ret ?_ | refine Cont.sc_exit ?_)
    refine ⟨fun h2 => ?_, fun h2 => ?_⟩
    · have h2 : (i : Int) < (n : Int) := h2
      obtain ⟨x, ex⟩ : ∃ x, xs[i]? = some x := ⟨xs[i], List.getElem?_eq_getElem (by omega)⟩
      have hsz := hps x (List.mem_of_getElem? ex)
      repeat (first | refine Ops.cons ?_ | refine Ops.nil ?_ | refine And.intro rfl ?_ | refine And.intro (Nat.le_of_ble_eq_true rfl) ?_ | refine And.intro (Int.natCast_nonneg _) ?_ | refine fun (_ : Nat) => ?_ | refine Ord.quiet rfl ?_ | refine Ord.loud rfl ?_ | refine Ord.nil ?_ | refine Run.seq ?_ | refine Run.text ?_ | refine Run.cond ?_ | refine Run.blk ?_ | refine Run.skip ?_ | refine Run.ret ?_ | refine Run.exit ?_ | refine Cont.seq ?_ | refine Cont.seq_ret ?_ | refine Cont.seq_exit ?_ | refine Cont.blk ?_ | refine Cont.blk_ret ?_ | refine Cont.blk_exit ?_ | refine Cont.lp_ret ?_ | refine Cont.lp_exit ?_ | refine Cont.nil ?_ | refine Cont.op rfl ?_ | refine OrdP.cons rfl ?_ | refine OrdP.nil ?_ | refine Run.scope ?_ | refine Run.label ?_ | refine Cont.sc ?_ | refine Cont.sc_ret ?_ | refine Cont.sc_exit ?_)
      refine ⟨h2, enc x, enc_at _ _ _ ex, ?_⟩
      repeat (first | refine Ops.cons ?_ | refine Ops.nil ?_ | refine And.intro rfl ?_ | refine And.intro (Nat.le_of_ble_eq_true rfl) ?_ | refine And.intro (Int.natCast_nonneg _) ?_ | refine fun (_ : Nat) => ?_ | refine Ord.quiet rfl ?_ | refine Ord.loud rfl ?_ | refine Ord.nil ?_ | refine Run.seq ?_ | refine Run.text ?_ | refine Run.cond ?_ | refine Run.blk ?_ | refine Run.skip ?_ | refine Run.ret ?_ | refine Run.exit ?_ | refine Cont.seq ?_ | refine Cont.seq_ret ?_ | refine Cont.seq_exit ?_ | refine Cont.blk ?_ | refine Cont.blk_ret ?_ | refine Cont.blk_exit ?_ | refine Cont.lp_ret ?_ | refine Cont.lp_exit ?_ | refine Cont.nil ?_ | refine Cont.op rfl ?_ | refine OrdP.cons rfl ?_ | refine OrdP.nil ?_ | refine Run.scope ?_ | refine Run.label ?_ | refine Cont.sc ?_ | refine Cont.sc_ret ?_ | refine Cont.sc_exit ?_)
      refine ACall.ret (has1_spec x.p x.d x.v at_ hsz) ?_
      repeat (first | refine Ops.cons ?_ | refine Ops.nil ?_ | refine And.intro rfl ?_ | refine And.intro (Nat.le_of_ble_eq_true rfl) ?_ | refine And.intro (Int.natCast_nonneg _) ?_ | refine fun (_ : Nat) => ?_ | refine Ord.quiet rfl ?_ | refine Ord.loud rfl ?_ | refine Ord.nil ?_ | refine Run.seq ?_ | refine Run.text ?_ | refine Run.cond ?_ | refine Run.blk ?_ | refine Run.skip ?_ | refine Run.ret ?_ | refine Run.exit ?_ | refine Cont.seq ?_ | refine Cont.seq_ret ?_ | refine Cont.seq_exit ?_ | refine Cont.blk ?_ | refine Cont.blk_ret ?_ | refine Cont.blk_exit ?_ | refine Cont.lp_ret ?_ | refine Cont.lp_exit ?_ | refine Cont.nil ?_ | refine Cont.op rfl ?_ | refine OrdP.cons rfl ?_ | refine OrdP.nil ?_ | refine Run.scope ?_ | refine Run.label ?_ | refine Cont.sc ?_ | refine Cont.sc_ret ?_ | refine Cont.sc_exit ?_)
      refine ⟨fun hc => ?_, fun hc => ?_⟩
      · have hc : orderB x.p at_ = 0 := hc
        repeat (first | refine Ops.cons ?_ | refine Ops.nil ?_ | refine And.intro rfl ?_ | refine And.intro (Nat.le_of_ble_eq_true rfl) ?_ | refine And.intro (Int.natCast_nonneg _) ?_ | refine fun (_ : Nat) => ?_ | refine Ord.quiet rfl ?_ | refine Ord.loud rfl ?_ | refine Ord.nil ?_ | refine Run.seq ?_ | refine Run.text ?_ | refine Run.cond ?_ | refine Run.blk ?_ | refine Run.skip ?_ | refine Run.ret ?_ | refine Run.exit ?_ | refine Cont.seq ?_ | refine Cont.seq_ret ?_ | refine Cont.seq_exit ?_ | refine Cont.blk ?_ | refine Cont.blk_ret ?_ | refine Cont.blk_exit ?_ | refine Cont.lp_ret ?_ | refine Cont.lp_exit ?_ | refine Cont.nil ?_ | refine Cont.op rfl ?_ | refine OrdP.cons rfl ?_ | refine OrdP.nil ?_ | refine Run.scope ?_ | refine Run.label ?_ | refine Cont.sc ?_ | refine Cont.sc_ret ?_ | refine Cont.sc_exit ?_)
        exact ⟨_, [], FinOk.drop _ _, ⟨i, true, ⟨by omega, hi, hj, by simp only [true_iff]; exact ⟨by omega, x, ex, hc⟩⟩, rfl⟩, rfl⟩
      · have hc : ¬ orderB x.p at_ = 0 := hc
        repeat (first | refine Ops.cons ?_ | refine Ops.nil ?_ | refine And.intro rfl ?_ | refine And.intro (Nat.le_of_ble_eq_true rfl) ?_ | refine And.intro (Int.natCast_nonneg _) ?_ | refine fun (_ : Nat) => ?_ | refine Ord.quiet rfl ?_ | refine Ord.loud rfl ?_ | refine Ord.nil ?_ | refine Run.seq ?_ | refine Run.text ?_ | refine Run.cond ?_ | refine Run.blk ?_ | refine Run.skip ?_ | refine Run.ret ?_ | refine Run.exit ?_ | refine Cont.seq ?_ | refine Cont.seq_ret ?_ | refine Cont.seq_exit ?_ | refine Cont.blk ?_ | refine Cont.blk_ret ?_ | refine Cont.blk_exit ?_ | refine Cont.lp_ret ?_ | refine Cont.lp_exit ?_ | refine Cont.nil ?_ | refine Cont.op rfl ?_ | refine OrdP.cons rfl ?_ | refine OrdP.nil ?_ | refine Run.scope ?_ | refine Run.label ?_ | refine Cont.sc ?_ | refine Cont.sc_ret ?_ | refine Cont.sc_exit ?_)
        exact ⟨_, [], FinOk.drop _ _, ⟨i, false, ⟨by omega, hi, hj, by
          simp only [Bool.false_eq_true, false_iff]
          rintro ⟨_, y, ey, hy⟩
          rw [ex] at ey; cases ey; exact hc hy⟩, rfl⟩, rfl⟩
    · have h2 : ¬ (i : Int) < (n : Int) := h2
      repeat (first | refine Ops.cons ?_ | refine Ops.nil ?_ | refine And.intro rfl ?_ | refine And.intro (Nat.le_of_ble_eq_true rfl) ?_ | refine And.intro (Int.natCast_nonneg _) ?_ | refine fun (_ : Nat) => ?_ | refine Ord.quiet rfl ?_ | refine Ord.loud rfl ?_ | refine Ord.nil ?_ | refine Run.seq ?_ | refine Run.text ?_ | refine Run.cond ?_ | refine Run.blk ?_ | refine Run.skip ?_ | refine Run.ret ?_ | refine Run.exit ?_ | refine Cont.seq ?_ | refine Cont.seq_ret ?_ | refine Cont.seq_exit ?_ | refine Cont.blk ?_ | refine Cont.blk_ret ?_ | refine Cont.blk_exit ?_ | refine Cont.lp_ret ?_ | refine Cont.lp_exit ?_ | refine Cont.nil ?_ | refine Cont.op rfl ?_ | refine OrdP.cons rfl ?_ | refine OrdP.nil ?_ | refine Run.scope ?_ | refine Run.label ?_ | refine Cont.sc ?_ | refine Cont.sc_ret ?_ | refine Cont.sc_exit ?_)
      exact ⟨_, [], FinOk.drop _ _, ⟨i, false, ⟨by omega, hi, hj, by
        simp only [Bool.false_eq_true, false_iff]
        rintro ⟨h3, _⟩
        omega⟩, rfl⟩, rfl⟩

theorem has_spec (xs : List Sn) (n : Nat) (hn : n ≤ xs.length) (hm : n ≤ 1000) (at_ : ByteArray) (hps : ∀ x ∈ xs, x.p.size ≤ 9223372036854775807) :
    FnSpec C 63 [rdo xs n, .str at_] [] (fun r L' => (∃ i b, Found xs n at_ i b ∧ r = .tuple [.int .i64 (i : Nat), .bool b]) ∧ L' = []) := by
  refine FnSpec.start C_ok Tryd.func63 rfl rfl Tryd.ntmps63 ?_
  repeat (first | refine Ops.cons ?_ | refine Ops.nil ?_ | refine And.intro rfl ?_ | refine And.intro (Nat.le_of_ble_eq_true rfl) ?_ | refine And.intro (Int.natCast_nonneg _) ?_ | refine fun (_ : Nat) => ?_ | refine Ord.quiet rfl ?_ | refine Ord.loud rfl ?_ | refine Ord.nil ?_ | refine Run.seq ?_ | refine Run.text ?_ | refine Run.cond ?_ | refine Run.blk ?_ | refine Run.skip ?_ | refine Run.ret ?_ | refine Run.exit ?_ | refine Cont.seq ?_ | refine Cont.seq_ret ?_ | refine Cont.seq_exit ?_ | refine Cont.blk ?_ | refine Cont.blk_ret ?_ | refine Cont.blk_exit ?_ | refine Cont.lp_ret ?_ | refine Cont.lp_exit ?_ | refine Cont.nil ?_ | refine Cont.op rfl ?_ | refine OrdP.cons rfl ?_ | refine OrdP.nil ?_ | refine Run.scope ?_ | refine Run.label ?_ | refine Cont.sc ?_ | refine Cont.sc_ret ?_ | refine Cont.sc_exit ?_)
  refine ACall.pure _ (search_spec xs n hn hm at_ hps) ?_
  rintro r L' ⟨⟨i, b, hf, rfl⟩, rfl⟩
  refine ⟨_, Sub.refl _, ?_⟩
  repeat (first | refine Ops.cons ?_ | refine Ops.nil ?_ | refine And.intro rfl ?_ | refine And.intro (Nat.le_of_ble_eq_true rfl) ?_ | refine And.intro (Int.natCast_nonneg _) ?_ | refine fun (_ : Nat) => ?_ | refine Ord.quiet rfl ?_ | refine Ord.loud rfl ?_ | refine Ord.nil ?_ | refine Run.seq ?_ | refine Run.text ?_ | refine Run.cond ?_ | refine Run.blk ?_ | refine Run.skip ?_ | refine Run.ret ?_ | refine Run.exit ?_ | refine Cont.seq ?_ | refine Cont.seq_ret ?_ | refine Cont.seq_exit ?_ | refine Cont.blk ?_ | refine Cont.blk_ret ?_ | refine Cont.blk_exit ?_ | refine Cont.lp_ret ?_ | refine Cont.lp_exit ?_ | refine Cont.nil ?_ | refine Cont.op rfl ?_ | refine OrdP.cons rfl ?_ | refine OrdP.nil ?_ | refine Run.scope ?_ | refine Run.label ?_ | refine Cont.sc ?_ | refine Cont.sc_ret ?_ | refine Cont.sc_exit ?_)
  exact ⟨_, [], FinOk.drop _ _, ⟨i, b, hf, rfl⟩, rfl⟩

end Go.Proofs.YtfohedaadncefaaDoor.HBT
