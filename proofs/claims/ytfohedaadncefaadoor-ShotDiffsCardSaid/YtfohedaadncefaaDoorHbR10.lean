/- The contract of the document's own text 'in'. -/
import Derived.Test.YtfohedaadncefaaDoorHbR9
namespace Go.Proofs.YtfohedaadncefaaDoor.HBT
open Go Go.Proofs.YtfohedaadncefaaDoor.HB Go.RowKit
set_option maxRecDepth 8000

def inP (kd : Int) (of_ p : ByteArray) : Prop := p = of_ ∨ (kd = 2 ∧ parentB p = of_) ∨ (kd ≠ 2 ∧ kd = 3 ∧ belowR p of_)
noncomputable instance (kd : Int) (of_ p : ByteArray) : Decidable (inP kd of_ p) := Classical.propDecidable _

theorem in_spec (kd : Int) (of_ p : ByteArray) : FnSpec C 55 [.int .i64 kd, .str of_, .str p] [] (fun r L' => r = .bool (decide (inP kd of_ p)) ∧ L' = []) := by
  have no : ¬ inP kd of_ p → false = decide (inP kd of_ p) := fun h => (decide_eq_false h).symm
  have yes : inP kd of_ p → true = decide (inP kd of_ p) := fun h => (decide_eq_true h).symm
  refine FnSpec.start C_ok Tryd.func55 rfl rfl Tryd.ntmps55 ?_
  repeat (first | refine Ops.cons ?_ | refine Ops.nil ?_ | refine And.intro rfl ?_ | refine And.intro (Nat.le_of_ble_eq_true rfl) ?_ | refine And.intro (Int.natCast_nonneg _) ?_ | refine fun (_ : Nat) => ?_ | refine Ord.quiet rfl ?_ | refine Ord.loud rfl ?_ | refine Ord.nil ?_ | refine Run.seq ?_ | refine Run.text ?_ | refine Run.cond ?_ | refine Run.blk ?_ | refine Run.skip ?_ | refine Run.ret ?_ | refine Run.exit ?_ | refine Cont.seq ?_ | refine Cont.seq_ret ?_ | refine Cont.seq_exit ?_ | refine Cont.blk ?_ | refine Cont.blk_ret ?_ | refine Cont.blk_exit ?_ | refine Cont.lp_ret ?_ | refine Cont.lp_exit ?_ | refine Cont.nil ?_ | refine Cont.op rfl ?_ | refine OrdP.cons rfl ?_ | refine OrdP.nil ?_ | refine Run.scope ?_ | refine Run.label ?_ | refine Cont.sc ?_ | refine Cont.sc_ret ?_ | refine Cont.sc_exit ?_)
  refine ⟨fun h => ?_, fun h => ?_⟩
  · have h : p = of_ := h
    repeat (first | refine Ops.cons ?_ | refine Ops.nil ?_ | refine And.intro rfl ?_ | refine And.intro (Nat.le_of_ble_eq_true rfl) ?_ | refine And.intro (Int.natCast_nonneg _) ?_ | refine fun (_ : Nat) => ?_ | refine Ord.quiet rfl ?_ | refine Ord.loud rfl ?_ | refine Ord.nil ?_ | refine Run.seq ?_ | refine Run.text ?_ | refine Run.cond ?_ | refine Run.blk ?_ | refine Run.skip ?_ | refine Run.ret ?_ | refine Run.exit ?_ | refine Cont.seq ?_ | refine Cont.seq_ret ?_ | refine Cont.seq_exit ?_ | refine Cont.blk ?_ | refine Cont.blk_ret ?_ | refine Cont.blk_exit ?_ | refine Cont.lp_ret ?_ | refine Cont.lp_exit ?_ | refine Cont.nil ?_ | refine Cont.op rfl ?_ | refine OrdP.cons rfl ?_ | refine OrdP.nil ?_ | refine Run.scope ?_ | refine Run.label ?_ | refine Cont.sc ?_ | refine Cont.sc_ret ?_ | refine Cont.sc_exit ?_)
    exact ⟨_, [], FinOk.drop _ _, congrArg AV.bool (yes (.inl h)), rfl⟩
  have h1 : ¬ p = of_ := h
  repeat (first | refine Ops.cons ?_ | refine Ops.nil ?_ | refine And.intro rfl ?_ | refine And.intro (Nat.le_of_ble_eq_true rfl) ?_ | refine And.intro (Int.natCast_nonneg _) ?_ | refine fun (_ : Nat) => ?_ | refine Ord.quiet rfl ?_ | refine Ord.loud rfl ?_ | refine Ord.nil ?_ | refine Run.seq ?_ | refine Run.text ?_ | refine Run.cond ?_ | refine Run.blk ?_ | refine Run.skip ?_ | refine Run.ret ?_ | refine Run.exit ?_ | refine Cont.seq ?_ | refine Cont.seq_ret ?_ | refine Cont.seq_exit ?_ | refine Cont.blk ?_ | refine Cont.blk_ret ?_ | refine Cont.blk_exit ?_ | refine Cont.lp_ret ?_ | refine Cont.lp_exit ?_ | refine Cont.nil ?_ | refine Cont.op rfl ?_ | refine OrdP.cons rfl ?_ | refine OrdP.nil ?_ | refine Run.scope ?_ | refine Run.label ?_ | refine Cont.sc ?_ | refine Cont.sc_ret ?_ | refine Cont.sc_exit ?_)
  refine ⟨fun h => ?_, fun h => ?_⟩
  · have h : kd = 2 := h
    repeat (first | refine Ops.cons ?_ | refine Ops.nil ?_ | refine And.intro rfl ?_ | refine And.intro (Nat.le_of_ble_eq_true rfl) ?_ | refine And.intro (Int.natCast_nonneg _) ?_ | refine fun (_ : Nat) => ?_ | refine Ord.quiet rfl ?_ | refine Ord.loud rfl ?_ | refine Ord.nil ?_ | refine Run.seq ?_ | refine Run.text ?_ | refine Run.cond ?_ | refine Run.blk ?_ | refine Run.skip ?_ | refine Run.ret ?_ | refine Run.exit ?_ | refine Cont.seq ?_ | refine Cont.seq_ret ?_ | refine Cont.seq_exit ?_ | refine Cont.blk ?_ | refine Cont.blk_ret ?_ | refine Cont.blk_exit ?_ | refine Cont.lp_ret ?_ | refine Cont.lp_exit ?_ | refine Cont.nil ?_ | refine Cont.op rfl ?_ | refine OrdP.cons rfl ?_ | refine OrdP.nil ?_ | refine Run.scope ?_ | refine Run.label ?_ | refine Cont.sc ?_ | refine Cont.sc_ret ?_ | refine Cont.sc_exit ?_)
    refine ACall.ret (above_spec p) ?_
    repeat (first | refine Ops.cons ?_ | refine Ops.nil ?_ | refine And.intro rfl ?_ | refine And.intro (Nat.le_of_ble_eq_true rfl) ?_ | refine And.intro (Int.natCast_nonneg _) ?_ | refine fun (_ : Nat) => ?_ | refine Ord.quiet rfl ?_ | refine Ord.loud rfl ?_ | refine Ord.nil ?_ | refine Run.seq ?_ | refine Run.text ?_ | refine Run.cond ?_ | refine Run.blk ?_ | refine Run.skip ?_ | refine Run.ret ?_ | refine Run.exit ?_ | refine Cont.seq ?_ | refine Cont.seq_ret ?_ | refine Cont.seq_exit ?_ | refine Cont.blk ?_ | refine Cont.blk_ret ?_ | refine Cont.blk_exit ?_ | refine Cont.lp_ret ?_ | refine Cont.lp_exit ?_ | refine Cont.nil ?_ | refine Cont.op rfl ?_ | refine OrdP.cons rfl ?_ | refine OrdP.nil ?_ | refine Run.scope ?_ | refine Run.label ?_ | refine Cont.sc ?_ | refine Cont.sc_ret ?_ | refine Cont.sc_exit ?_)
    refine ⟨fun h2 => ?_, fun h2 => ?_⟩
    · repeat (first | refine Ops.cons ?_ | refine Ops.nil ?_ | refine And.intro rfl ?_ | refine And.intro (Nat.le_of_ble_eq_true rfl) ?_ | refine And.intro (Int.natCast_nonneg _) ?_ | refine fun (_ : Nat) => ?_ | refine Ord.quiet rfl ?_ | refine Ord.loud rfl ?_ | refine Ord.nil ?_ | refine Run.seq ?_ | refine Run.text ?_ | refine Run.cond ?_ | refine Run.blk ?_ | refine Run.skip ?_ | refine Run.ret ?_ | refine Run.exit ?_ | refine Cont.seq ?_ | refine Cont.seq_ret ?_ | refine Cont.seq_exit ?_ | refine Cont.blk ?_ | refine Cont.blk_ret ?_ | refine Cont.blk_exit ?_ | refine Cont.lp_ret ?_ | refine Cont.lp_exit ?_ | refine Cont.nil ?_ | refine Cont.op rfl ?_ | refine OrdP.cons rfl ?_ | refine OrdP.nil ?_ | refine Run.scope ?_ | refine Run.label ?_ | refine Cont.sc ?_ | refine Cont.sc_ret ?_ | refine Cont.sc_exit ?_)
      exact ⟨_, [], FinOk.drop _ _, congrArg AV.bool (yes (.inr (.inl ⟨h, h2⟩))), rfl⟩
    · repeat (first | refine Ops.cons ?_ | refine Ops.nil ?_ | refine And.intro rfl ?_ | refine And.intro (Nat.le_of_ble_eq_true rfl) ?_ | refine And.intro (Int.natCast_nonneg _) ?_ | refine fun (_ : Nat) => ?_ | refine Ord.quiet rfl ?_ | refine Ord.loud rfl ?_ | refine Ord.nil ?_ | refine Run.seq ?_ | refine Run.text ?_ | refine Run.cond ?_ | refine Run.blk ?_ | refine Run.skip ?_ | refine Run.ret ?_ | refine Run.exit ?_ | refine Cont.seq ?_ | refine Cont.seq_ret ?_ | refine Cont.seq_exit ?_ | refine Cont.blk ?_ | refine Cont.blk_ret ?_ | refine Cont.blk_exit ?_ | refine Cont.lp_ret ?_ | refine Cont.lp_exit ?_ | refine Cont.nil ?_ | refine Cont.op rfl ?_ | refine OrdP.cons rfl ?_ | refine OrdP.nil ?_ | refine Run.scope ?_ | refine Run.label ?_ | refine Cont.sc ?_ | refine Cont.sc_ret ?_ | refine Cont.sc_exit ?_)
      exact ⟨_, [], FinOk.drop _ _, congrArg AV.bool (no (by
        rintro (h3 | ⟨_, h3⟩ | ⟨h3, _⟩)
        · exact h1 h3
        · exact h2 h3
        · exact h3 h)), rfl⟩
  have h2 : ¬ kd = 2 := h
  repeat (first | refine Ops.cons ?_ | refine Ops.nil ?_ | refine And.intro rfl ?_ | refine And.intro (Nat.le_of_ble_eq_true rfl) ?_ | refine And.intro (Int.natCast_nonneg _) ?_ | refine fun (_ : Nat) => ?_ | refine Ord.quiet rfl ?_ | refine Ord.loud rfl ?_ | refine Ord.nil ?_ | refine Run.seq ?_ | refine Run.text ?_ | refine Run.cond ?_ | refine Run.blk ?_ | refine Run.skip ?_ | refine Run.ret ?_ | refine Run.exit ?_ | refine Cont.seq ?_ | refine Cont.seq_ret ?_ | refine Cont.seq_exit ?_ | refine Cont.blk ?_ | refine Cont.blk_ret ?_ | refine Cont.blk_exit ?_ | refine Cont.lp_ret ?_ | refine Cont.lp_exit ?_ | refine Cont.nil ?_ | refine Cont.op rfl ?_ | refine OrdP.cons rfl ?_ | refine OrdP.nil ?_ | refine Run.scope ?_ | refine Run.label ?_ | refine Cont.sc ?_ | refine Cont.sc_ret ?_ | refine Cont.sc_exit ?_)
  refine ⟨fun h => ?_, fun h => ?_⟩
  · have h : kd = 3 := h
    repeat (first | refine Ops.cons ?_ | refine Ops.nil ?_ | refine And.intro rfl ?_ | refine And.intro (Nat.le_of_ble_eq_true rfl) ?_ | refine And.intro (Int.natCast_nonneg _) ?_ | refine fun (_ : Nat) => ?_ | refine Ord.quiet rfl ?_ | refine Ord.loud rfl ?_ | refine Ord.nil ?_ | refine Run.seq ?_ | refine Run.text ?_ | refine Run.cond ?_ | refine Run.blk ?_ | refine Run.skip ?_ | refine Run.ret ?_ | refine Run.exit ?_ | refine Cont.seq ?_ | refine Cont.seq_ret ?_ | refine Cont.seq_exit ?_ | refine Cont.blk ?_ | refine Cont.blk_ret ?_ | refine Cont.blk_exit ?_ | refine Cont.lp_ret ?_ | refine Cont.lp_exit ?_ | refine Cont.nil ?_ | refine Cont.op rfl ?_ | refine OrdP.cons rfl ?_ | refine OrdP.nil ?_ | refine Run.scope ?_ | refine Run.label ?_ | refine Cont.sc ?_ | refine Cont.sc_ret ?_ | refine Cont.sc_exit ?_)
    refine ACall.ret (refBelow_spec p of_) ?_
    repeat (first | refine Ops.cons ?_ | refine Ops.nil ?_ | refine And.intro rfl ?_ | refine And.intro (Nat.le_of_ble_eq_true rfl) ?_ | refine And.intro (Int.natCast_nonneg _) ?_ | refine fun (_ : Nat) => ?_ | refine Ord.quiet rfl ?_ | refine Ord.loud rfl ?_ | refine Ord.nil ?_ | refine Run.seq ?_ | refine Run.text ?_ | refine Run.cond ?_ | refine Run.blk ?_ | refine Run.skip ?_ | refine Run.ret ?_ | refine Run.exit ?_ | refine Cont.seq ?_ | refine Cont.seq_ret ?_ | refine Cont.seq_exit ?_ | refine Cont.blk ?_ | refine Cont.blk_ret ?_ | refine Cont.blk_exit ?_ | refine Cont.lp_ret ?_ | refine Cont.lp_exit ?_ | refine Cont.nil ?_ | refine Cont.op rfl ?_ | refine OrdP.cons rfl ?_ | refine OrdP.nil ?_ | refine Run.scope ?_ | refine Run.label ?_ | refine Cont.sc ?_ | refine Cont.sc_ret ?_ | refine Cont.sc_exit ?_)
    exact ⟨_, [], FinOk.drop _ _, congrArg AV.bool (show decide (belowR p of_) = _ by
      rw [Bool.eq_iff_iff, decide_eq_true_iff, decide_eq_true_iff]
      constructor
      · intro h3; exact .inr (.inr ⟨h2, h, h3⟩)
      · rintro (h3 | ⟨h3, _⟩ | ⟨_, _, h3⟩)
        · exact absurd h3 h1
        · exact absurd h3 h2
        · exact h3), rfl⟩
  · have h : ¬ kd = 3 := h
    repeat (first | refine Ops.cons ?_ | refine Ops.nil ?_ | refine And.intro rfl ?_ | refine And.intro (Nat.le_of_ble_eq_true rfl) ?_ | refine And.intro (Int.natCast_nonneg _) ?_ | refine fun (_ : Nat) => ?_ | refine Ord.quiet rfl ?_ | refine Ord.loud rfl ?_ | refine Ord.nil ?_ | refine Run.seq ?_ | refine Run.text ?_ | refine Run.cond ?_ | refine Run.blk ?_ | refine Run.skip ?_ | refine Run.ret ?_ | refine Run.exit ?_ | refine Cont.seq ?_ | refine Cont.seq_ret ?_ | refine Cont.seq_exit ?_ | refine Cont.blk ?_ | refine Cont.blk_ret ?_ | refine Cont.blk_exit ?_ | refine Cont.lp_ret ?_ | refine Cont.lp_exit ?_ | refine Cont.nil ?_ | refine Cont.op rfl ?_ | refine OrdP.cons rfl ?_ | refine OrdP.nil ?_ | refine Run.scope ?_ | refine Run.label ?_ | refine Cont.sc ?_ | refine Cont.sc_ret ?_ | refine Cont.sc_exit ?_)
    exact ⟨_, [], FinOk.drop _ _, congrArg AV.bool (no (by
      rintro (h3 | ⟨h3, _⟩ | ⟨_, h3, _⟩)
      · exact h1 h3
      · exact h2 h3
      · exact h h3)), rfl⟩

end Go.Proofs.YtfohedaadncefaaDoor.HBT
