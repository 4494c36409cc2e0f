/- The contract of the shot's text 'Check'. -/
import Derived.Test.YtfohedaadncefaaDoorHbD8
namespace Go.Proofs.YtfohedaadncefaaDoor.HBT
open Go Go.Proofs.YtfohedaadncefaaDoor.HB Go.RowKit
set_option maxRecDepth 8000

theorem sorted_of {xs : List Sn} {i : Nat} (hi : i ≤ xs.length) (h : ∀ (k : Nat) (x y : Sn), k + 1 < i → xs[k]? = some x → xs[k + 1]? = some y → orderB x.p y.p < 0) : Sorted xs i := by
  intro j k x y hjk hk ex ey
  obtain ⟨d, rfl⟩ : ∃ d, k = j + 1 + d := ⟨k - (j + 1), by omega⟩
  induction d generalizing y with
  | zero => exact h j x y (by omega) ex ey
  | succ d ih =>
    obtain ⟨z, ez⟩ : ∃ z, xs[j + 1 + d]? = some z := ⟨xs[j + 1 + d], List.getElem?_eq_getElem (by omega)⟩
    exact orderL_trans (ih z (by omega) (by omega) ez) (h (j + 1 + d) z y (by omega) ez ey)

def nodeOk (pl : ByteArray) (kd : Int) (xs : List Sn) (i : Nat) (x : Sn) : Prop := parseE x.p = 0 ∧ (x.d.size ≤ 64 ∧ 0 ≤ x.v ∧ x.v ≤ 2147483647) ∧ belongsP pl kd xs i x
/-- May the shot be? -/
def checkP (st : Int) (pl : ByteArray) (kd : Int) (xs : List Sn) (n : Nat) : Prop :=
  (0 ≤ st ∧ st ≤ 2147483647) ∧ parseE pl = 0 ∧ (kd = 1 ∨ kd = 2 ∨ kd = 3) ∧ n ≤ 64 ∧ ¬ (n = 0 ∧ pl = slash) ∧ ∀ (i : Nat) (x : Sn), i < n → xs[i]? = some x → nodeOk pl kd xs i x
noncomputable instance (st : Int) (pl : ByteArray) (kd : Int) (xs : List Sn) (n : Nat) : Decidable (checkP st pl kd xs n) := Classical.propDecidable _
noncomputable def checkE (st : Int) (pl : ByteArray) (kd : Int) (xs : List Sn) (n : Nat) : Int := if checkP st pl kd xs n then 0 else 51

set_option maxHeartbeats 4000000 in
theorem check_spec (st : Int) (pl : ByteArray) (kd : Int) (xs : List Sn) (n : Nat) (hn : n ≤ xs.length) (hps : ∀ x ∈ xs, x.p.size ≤ 9223372036854775807) :
    FnSpec C 12 [shot st pl kd (rdo xs n)] [] (fun r L' => r = .int .i64 (checkE st pl kd xs n) ∧ L' = []) := by
  refine FnSpec.start C_ok Tryd.func12 rfl rfl Tryd.ntmps12 ?_
  repeat (first | refine Ops.cons ?_ | refine Ops.nil ?_ | refine And.intro rfl ?_ | refine And.intro (Nat.le_of_ble_eq_true rfl) ?_ | refine And.intro (Int.natCast_nonneg _) ?_ | refine Ord.quiet rfl ?_ | refine Ord.loud rfl ?_ | refine Ord.nil ?_ | refine Run.seq ?_ | refine Run.text ?_ | refine Run.cond ?_ | refine Run.blk ?_ | refine Run.skip ?_ | refine Run.ret ?_ | refine Run.exit ?_ | refine Cont.seq ?_ | refine Cont.seq_ret ?_ | refine Cont.seq_exit ?_ | refine Cont.blk ?_ | refine Cont.blk_ret ?_ | refine Cont.blk_exit ?_ | refine Cont.lp_ret ?_ | refine Cont.lp_exit ?_ | refine Cont.nil ?_ | refine Cont.op rfl ?_ | refine OrdP.cons rfl ?_ | refine OrdP.nil ?_ | refine Run.scope ?_ | refine Run.label ?_ | refine Cont.sc ?_ | refine Cont.sc_ret ?_ | refine Cont.sc_exit ?_)
  refine fun g1 => ?_
  repeat (first | refine Ops.cons ?_ | refine Ops.nil ?_ | refine And.intro rfl ?_ | refine And.intro (Nat.le_of_ble_eq_true rfl) ?_ | refine And.intro (Int.natCast_nonneg _) ?_ | refine fun (_ : Nat) => ?_ | refine Ord.quiet rfl ?_ | refine Ord.loud rfl ?_ | refine Ord.nil ?_ | refine Run.seq ?_ | refine Run.text ?_ | refine Run.cond ?_ | refine Run.blk ?_ | refine Run.skip ?_ | refine Run.ret ?_ | refine Run.exit ?_ | refine Cont.seq ?_ | refine Cont.seq_ret ?_ | refine Cont.seq_exit ?_ | refine Cont.blk ?_ | refine Cont.blk_ret ?_ | refine Cont.blk_exit ?_ | refine Cont.lp_ret ?_ | refine Cont.lp_exit ?_ | refine Cont.nil ?_ | refine Cont.op rfl ?_ | refine OrdP.cons rfl ?_ | refine OrdP.nil ?_ | refine Run.scope ?_ | refine Run.label ?_ | refine Cont.sc ?_ | refine Cont.sc_ret ?_ | refine Cont.sc_exit ?_)
  have no : ¬ checkP st pl kd xs n → (51 : Int) = checkE st pl kd xs n := fun h => by unfold checkE; rw [if_neg h]
  refine ⟨fun h => ?_, fun h => ?_⟩
  · have h : st < 0 := h
    repeat (first | refine Ops.cons ?_ | refine Ops.nil ?_ | refine And.intro rfl ?_ | refine And.intro (Nat.le_of_ble_eq_true rfl) ?_ | refine And.intro (Int.natCast_nonneg _) ?_ | refine fun (_ : Nat) => ?_ | refine Ord.quiet rfl ?_ | refine Ord.loud rfl ?_ | refine Ord.nil ?_ | refine Run.seq ?_ | refine Run.text ?_ | refine Run.cond ?_ | refine Run.blk ?_ | refine Run.skip ?_ | refine Run.ret ?_ | refine Run.exit ?_ | refine Cont.seq ?_ | refine Cont.seq_ret ?_ | refine Cont.seq_exit ?_ | refine Cont.blk ?_ | refine Cont.blk_ret ?_ | refine Cont.blk_exit ?_ | refine Cont.lp_ret ?_ | refine Cont.lp_exit ?_ | refine Cont.nil ?_ | refine Cont.op rfl ?_ | refine OrdP.cons rfl ?_ | refine OrdP.nil ?_ | refine Run.scope ?_ | refine Run.label ?_ | refine Cont.sc ?_ | refine Cont.sc_ret ?_ | refine Cont.sc_exit ?_)
    exact ⟨_, [], FinOk.drop _ _, congrArg (AV.int .i64) (no (fun h2 => by have := h2.1; omega)), rfl⟩
  have h1 : ¬ st < 0 := h
  repeat (first | refine Ops.cons ?_ | refine Ops.nil ?_ | refine And.intro rfl ?_ | refine And.intro (Nat.le_of_ble_eq_true rfl) ?_ | refine And.intro (Int.natCast_nonneg _) ?_ | refine fun (_ : Nat) => ?_ | refine Ord.quiet rfl ?_ | refine Ord.loud rfl ?_ | refine Ord.nil ?_ | refine Run.seq ?_ | refine Run.text ?_ | refine Run.cond ?_ | refine Run.blk ?_ | refine Run.skip ?_ | refine Run.ret ?_ | refine Run.exit ?_ | refine Cont.seq ?_ | refine Cont.seq_ret ?_ | refine Cont.seq_exit ?_ | refine Cont.blk ?_ | refine Cont.blk_ret ?_ | refine Cont.blk_exit ?_ | refine Cont.lp_ret ?_ | refine Cont.lp_exit ?_ | refine Cont.nil ?_ | refine Cont.op rfl ?_ | refine OrdP.cons rfl ?_ | refine OrdP.nil ?_ | refine Run.scope ?_ | refine Run.label ?_ | refine Cont.sc ?_ | refine Cont.sc_ret ?_ | refine Cont.sc_exit ?_)
  refine ⟨fun h => ?_, fun h => ?_⟩
  · have h : (2147483647 : Int) < st := h
    repeat (first | refine Ops.cons ?_ | refine Ops.nil ?_ | refine And.intro rfl ?_ | refine And.intro (Nat.le_of_ble_eq_true rfl) ?_ | refine And.intro (Int.natCast_nonneg _) ?_ | refine fun (_ : Nat) => ?_ | refine Ord.quiet rfl ?_ | refine Ord.loud rfl ?_ | refine Ord.nil ?_ | refine Run.seq ?_ | refine Run.text ?_ | refine Run.cond ?_ | refine Run.blk ?_ | refine Run.skip ?_ | refine Run.ret ?_ | refine Run.exit ?_ | refine Cont.seq ?_ | refine Cont.seq_ret ?_ | refine Cont.seq_exit ?_ | refine Cont.blk ?_ | refine Cont.blk_ret ?_ | refine Cont.blk_exit ?_ | refine Cont.lp_ret ?_ | refine Cont.lp_exit ?_ | refine Cont.nil ?_ | refine Cont.op rfl ?_ | refine OrdP.cons rfl ?_ | refine OrdP.nil ?_ | refine Run.scope ?_ | refine Run.label ?_ | refine Cont.sc ?_ | refine Cont.sc_ret ?_ | refine Cont.sc_exit ?_)
    exact ⟨_, [], FinOk.drop _ _, congrArg (AV.int .i64) (no (fun h2 => by have := h2.1; omega)), rfl⟩
  have h2 : ¬ (2147483647 : Int) < st := h
  repeat (first | refine Ops.cons ?_ | refine Ops.nil ?_ | refine And.intro rfl ?_ | refine And.intro (Nat.le_of_ble_eq_true rfl) ?_ | refine And.intro (Int.natCast_nonneg _) ?_ | refine fun (_ : Nat) => ?_ | refine Ord.quiet rfl ?_ | refine Ord.loud rfl ?_ | refine Ord.nil ?_ | refine Run.seq ?_ | refine Run.text ?_ | refine Run.cond ?_ | refine Run.blk ?_ | refine Run.skip ?_ | refine Run.ret ?_ | refine Run.exit ?_ | refine Cont.seq ?_ | refine Cont.seq_ret ?_ | refine Cont.seq_exit ?_ | refine Cont.blk ?_ | refine Cont.blk_ret ?_ | refine Cont.blk_exit ?_ | refine Cont.lp_ret ?_ | refine Cont.lp_exit ?_ | refine Cont.nil ?_ | refine Cont.op rfl ?_ | refine OrdP.cons rfl ?_ | refine OrdP.nil ?_ | refine Run.scope ?_ | refine Run.label ?_ | refine Cont.sc ?_ | refine Cont.sc_ret ?_ | refine Cont.sc_exit ?_)
  cases hp : decide (parseE pl = 0) with
  | false =>
    have c1 := isPlace_spec pl
    rw [hp] at c1
    refine ACall.ret c1 ?_
    repeat (first | refine Ops.cons ?_ | refine Ops.nil ?_ | refine And.intro rfl ?_ | refine And.intro (Nat.le_of_ble_eq_true rfl) ?_ | refine And.intro (Int.natCast_nonneg _) ?_ | refine fun (_ : Nat) => ?_ | refine Ord.quiet rfl ?_ | refine Ord.loud rfl ?_ | refine Ord.nil ?_ | refine Run.seq ?_ | refine Run.text ?_ | refine Run.cond ?_ | refine Run.blk ?_ | refine Run.skip ?_ | refine Run.ret ?_ | refine Run.exit ?_ | refine Cont.seq ?_ | refine Cont.seq_ret ?_ | refine Cont.seq_exit ?_ | refine Cont.blk ?_ | refine Cont.blk_ret ?_ | refine Cont.blk_exit ?_ | refine Cont.lp_ret ?_ | refine Cont.lp_exit ?_ | refine Cont.nil ?_ | refine Cont.op rfl ?_ | refine OrdP.cons rfl ?_ | refine OrdP.nil ?_ | refine Run.scope ?_ | refine Run.label ?_ | refine Cont.sc ?_ | refine Cont.sc_ret ?_ | refine Cont.sc_exit ?_)
    exact ⟨_, [], FinOk.drop _ _, congrArg (AV.int .i64) (no (fun h2 => absurd h2.2.1 (of_decide_eq_false hp))), rfl⟩
  | true =>
    have c1 := isPlace_spec pl
    rw [hp] at c1
    refine ACall.ret c1 ?_
    repeat (first | refine Ops.cons ?_ | refine Ops.nil ?_ | refine And.intro rfl ?_ | refine And.intro (Nat.le_of_ble_eq_true rfl) ?_ | refine And.intro (Int.natCast_nonneg _) ?_ | refine fun (_ : Nat) => ?_ | refine Ord.quiet rfl ?_ | refine Ord.loud rfl ?_ | refine Ord.nil ?_ | refine Run.seq ?_ | refine Run.text ?_ | refine Run.cond ?_ | refine Run.blk ?_ | refine Run.skip ?_ | refine Run.ret ?_ | refine Run.exit ?_ | refine Cont.seq ?_ | refine Cont.seq_ret ?_ | refine Cont.seq_exit ?_ | refine Cont.blk ?_ | refine Cont.blk_ret ?_ | refine Cont.blk_exit ?_ | refine Cont.lp_ret ?_ | refine Cont.lp_exit ?_ | refine Cont.nil ?_ | refine Cont.op rfl ?_ | refine OrdP.cons rfl ?_ | refine OrdP.nil ?_ | refine Run.scope ?_ | refine Run.label ?_ | refine Cont.sc ?_ | refine Cont.sc_ret ?_ | refine Cont.sc_exit ?_)
    cases hk : decide (kd = 1 ∨ kd = 2 ∨ kd = 3) with
    | false =>
      have c2 := isKind_spec kd
      rw [hk] at c2
      refine ACall.ret c2 ?_
      repeat (first | refine Ops.cons ?_ | refine Ops.nil ?_ | refine And.intro rfl ?_ | refine And.intro (Nat.le_of_ble_eq_true rfl) ?_ | refine And.intro (Int.natCast_nonneg _) ?_ | refine fun (_ : Nat) => ?_ | refine Ord.quiet rfl ?_ | refine Ord.loud rfl ?_ | refine Ord.nil ?_ | refine Run.seq ?_ | refine Run.text ?_ | refine Run.cond ?_ | refine Run.blk ?_ | refine Run.skip ?_ | refine Run.ret ?_ | refine Run.exit ?_ | refine Cont.seq ?_ | refine Cont.seq_ret ?_ | refine Cont.seq_exit ?_ | refine Cont.blk ?_ | refine Cont.blk_ret ?_ | refine Cont.blk_exit ?_ | refine Cont.lp_ret ?_ | refine Cont.lp_exit ?_ | refine Cont.nil ?_ | refine Cont.op rfl ?_ | refine OrdP.cons rfl ?_ | refine OrdP.nil ?_ | refine Run.scope ?_ | refine Run.label ?_ | refine Cont.sc ?_ | refine Cont.sc_ret ?_ | refine Cont.sc_exit ?_)
      exact ⟨_, [], FinOk.drop _ _, congrArg (AV.int .i64) (no (fun h2 => absurd h2.2.2.1 (of_decide_eq_false hk))), rfl⟩
    | true =>
      have c2 := isKind_spec kd
      rw [hk] at c2
      refine ACall.ret c2 ?_
      repeat (first | refine Ops.cons ?_ | refine Ops.nil ?_ | refine And.intro rfl ?_ | refine And.intro (Nat.le_of_ble_eq_true rfl) ?_ | refine And.intro (Int.natCast_nonneg _) ?_ | refine fun (_ : Nat) => ?_ | refine Ord.quiet rfl ?_ | refine Ord.loud rfl ?_ | refine Ord.nil ?_ | refine Run.seq ?_ | refine Run.text ?_ | refine Run.cond ?_ | refine Run.blk ?_ | refine Run.skip ?_ | refine Run.ret ?_ | refine Run.exit ?_ | refine Cont.seq ?_ | refine Cont.seq_ret ?_ | refine Cont.seq_exit ?_ | refine Cont.blk ?_ | refine Cont.blk_ret ?_ | refine Cont.blk_exit ?_ | refine Cont.lp_ret ?_ | refine Cont.lp_exit ?_ | refine Cont.nil ?_ | refine Cont.op rfl ?_ | refine OrdP.cons rfl ?_ | refine OrdP.nil ?_ | refine Run.scope ?_ | refine Run.label ?_ | refine Cont.sc ?_ | refine Cont.sc_ret ?_ | refine Cont.sc_exit ?_)
      refine ⟨fun h => ?_, fun h => ?_⟩
      · have h : (64 : Int) < (n : Int) := h
        repeat (first | refine Ops.cons ?_ | refine Ops.nil ?_ | refine And.intro rfl ?_ | refine And.intro (Nat.le_of_ble_eq_true rfl) ?_ | refine And.intro (Int.natCast_nonneg _) ?_ | refine fun (_ : Nat) => ?_ | refine Ord.quiet rfl ?_ | refine Ord.loud rfl ?_ | refine Ord.nil ?_ | refine Run.seq ?_ | refine Run.text ?_ | refine Run.cond ?_ | refine Run.blk ?_ | refine Run.skip ?_ | refine Run.ret ?_ | refine Run.exit ?_ | refine Cont.seq ?_ | refine Cont.seq_ret ?_ | refine Cont.seq_exit ?_ | refine Cont.blk ?_ | refine Cont.blk_ret ?_ | refine Cont.blk_exit ?_ | refine Cont.lp_ret ?_ | refine Cont.lp_exit ?_ | refine Cont.nil ?_ | refine Cont.op rfl ?_ | refine OrdP.cons rfl ?_ | refine OrdP.nil ?_ | refine Run.scope ?_ | refine Run.label ?_ | refine Cont.sc ?_ | refine Cont.sc_ret ?_ | refine Cont.sc_exit ?_)
        exact ⟨_, [], FinOk.drop _ _, congrArg (AV.int .i64) (no (fun h2 => by have := h2.2.2.2.1; omega)), rfl⟩
      have h3 : ¬ (64 : Int) < (n : Int) := h
      repeat (first | refine Ops.cons ?_ | refine Ops.nil ?_ | refine And.intro rfl ?_ | refine And.intro (Nat.le_of_ble_eq_true rfl) ?_ | refine And.intro (Int.natCast_nonneg _) ?_ | refine fun (_ : Nat) => ?_ | refine Ord.quiet rfl ?_ | refine Ord.loud rfl ?_ | refine Ord.nil ?_ | refine Run.seq ?_ | refine Run.text ?_ | refine Run.cond ?_ | refine Run.blk ?_ | refine Run.skip ?_ | refine Run.ret ?_ | refine Run.exit ?_ | refine Cont.seq ?_ | refine Cont.seq_ret ?_ | refine Cont.seq_exit ?_ | refine Cont.blk ?_ | refine Cont.blk_ret ?_ | refine Cont.blk_exit ?_ | refine Cont.lp_ret ?_ | refine Cont.lp_exit ?_ | refine Cont.nil ?_ | refine Cont.op rfl ?_ | refine OrdP.cons rfl ?_ | refine OrdP.nil ?_ | refine Run.scope ?_ | refine Run.label ?_ | refine Cont.sc ?_ | refine Cont.sc_ret ?_ | refine Cont.sc_exit ?_)
      refine ⟨fun h => ?_, fun h => ?_⟩
      case' refine_1 =>
        have hn0 : (n : Int) = 0 := h
        repeat (first | refine Ops.cons ?_ | refine Ops.nil ?_ | refine And.intro rfl ?_ | refine And.intro (Nat.le_of_ble_eq_true rfl) ?_ | refine And.intro (Int.natCast_nonneg _) ?_ | refine fun (_ : Nat) => ?_ | refine Ord.quiet rfl ?_ | refine Ord.loud rfl ?_ | refine Ord.nil ?_ | refine Run.seq ?_ | refine Run.text ?_ | refine Run.cond ?_ | refine Run.blk ?_ | refine Run.skip ?_ | refine Run.ret ?_ | refine Run.exit ?_ | refine Cont.seq ?_ | refine Cont.seq_ret ?_ | refine Cont.seq_exit ?_ | refine Cont.blk ?_ | refine Cont.blk_ret ?_ | refine Cont.blk_exit ?_ | refine Cont.lp_ret ?_ | refine Cont.lp_exit ?_ | refine Cont.nil ?_ | refine Cont.op rfl ?_ | refine OrdP.cons rfl ?_ | refine OrdP.nil ?_ | refine Run.scope ?_ | refine Run.label ?_ | refine Cont.sc ?_ | refine Cont.sc_ret ?_ | refine Cont.sc_exit ?_)
        refine ⟨fun hpl => ?_, fun hpl => ?_⟩
        · have hpl : pl = slash := hpl
          repeat (first | refine Ops.cons ?_ | refine Ops.nil ?_ | refine And.intro rfl ?_ | refine And.intro (Nat.le_of_ble_eq_true rfl) ?_ | refine And.intro (Int.natCast_nonneg _) ?_ | refine fun (_ : Nat) => ?_ | refine Ord.quiet rfl ?_ | refine Ord.loud rfl ?_ | refine Ord.nil ?_ | refine Run.seq ?_ | refine Run.text ?_ | refine Run.cond ?_ | refine Run.blk ?_ | refine Run.skip ?_ | refine Run.ret ?_ | refine Run.exit ?_ | refine Cont.seq ?_ | refine Cont.seq_ret ?_ | refine Cont.seq_exit ?_ | refine Cont.blk ?_ | refine Cont.blk_ret ?_ | refine Cont.blk_exit ?_ | refine Cont.lp_ret ?_ | refine Cont.lp_exit ?_ | refine Cont.nil ?_ | refine Cont.op rfl ?_ | refine OrdP.cons rfl ?_ | refine OrdP.nil ?_ | refine Run.scope ?_ | refine Run.label ?_ | refine Cont.sc ?_ | refine Cont.sc_ret ?_ | refine Cont.sc_exit ?_)
          exact ⟨_, [], FinOk.drop _ _, congrArg (AV.int .i64) (no (fun h2 => h2.2.2.2.2.1 ⟨by omega, hpl⟩)), rfl⟩
        have hne : ¬ (n = 0 ∧ pl = slash) := fun h => hpl h.2
      case' refine_2 =>
        have hn0 : ¬ (n : Int) = 0 := h
        have hne : ¬ (n = 0 ∧ pl = slash) := fun h => hn0 (by omega)
      all_goals
        repeat (first | refine Ops.cons ?_ | refine Ops.nil ?_ | refine And.intro rfl ?_ | refine And.intro (Nat.le_of_ble_eq_true rfl) ?_ | refine And.intro (Int.natCast_nonneg _) ?_ | refine fun (_ : Nat) => ?_ | refine Ord.quiet rfl ?_ | refine Ord.loud rfl ?_ | refine Ord.nil ?_ | refine Run.seq ?_ | refine Run.text ?_ | refine Run.cond ?_ | refine Run.blk ?_ | refine Run.skip ?_ | refine Run.ret ?_ | refine Run.exit ?_ | refine Cont.seq ?_ | refine Cont.seq_ret ?_ | refine Cont.seq_exit ?_ | refine Cont.blk ?_ | refine Cont.blk_ret ?_ | refine Cont.blk_exit ?_ | refine Cont.lp_ret ?_ | refine Cont.lp_exit ?_ | refine Cont.nil ?_ | refine Cont.op rfl ?_ | refine OrdP.cons rfl ?_ | refine OrdP.nil ?_ | refine Run.scope ?_ | refine Run.label ?_ | refine Cont.sc ?_ | refine Cont.sc_ret ?_ | refine Cont.sc_exit ?_)
        refine Run.loop (fun k env L => ∃ i : Nat, k = n - i ∧ i ≤ n ∧ (∀ (j : Nat) (x : Sn), j < i → xs[j]? = some x → nodeOk pl kd xs j x) ∧
            env = [.junk, .ptr 0 g1 0, .junk, .junk, .junk, .junk, .junk, .junk, .junk, .junk, .junk, .junk, .junk, .junk, .junk, .junk, .junk, .junk, .junk, .junk, .junk, .junk, .junk, .junk, .junk, .junk, .junk, .junk, .junk, .junk, .junk, .junk, .junk, .junk, .junk, .junk, .junk, .junk, .junk, .junk, .junk, rdo xs n, .int .i64 n, .int .i64 i, .junk, .junk, .junk, .junk, .junk, .junk, .junk, .junk, .junk, .junk, .junk, .junk, .junk, .junk, .junk, .junk, .junk, .junk, .junk, .junk, .junk, .junk, .junk] ∧ L = [(g1, .cells 24 [.int .i64 st, .str pl, .int .i64 kd, rdo xs n])]) n
          [.junk, .ptr 0 g1 0, .junk, .junk, .junk, .junk, .junk, .junk, .junk, .junk, .junk, .junk, .junk, .junk, .junk, .junk, .junk, .junk, .junk, .junk, .junk, .junk, .junk, .junk, .junk, .junk, .junk, .junk, .junk, .junk, .junk, .junk, .junk, .junk, .junk, .junk, .junk, .junk, .junk, .junk, .junk, rdo xs n, .int .i64 n, .int .i64 0, .junk, .junk, .junk, .junk, .junk, .junk, .junk, .junk, .junk, .junk, .junk, .junk, .junk, .junk, .junk, .junk, .junk, .junk, .junk, .junk, .junk, .junk, .junk] ?_ ⟨0, by omega, by omega, (fun j _ hj _ => absurd hj (Nat.not_lt_zero j)), rfl, rfl⟩ ?_
        · repeat (first | exact trivial | refine ⟨.inl rfl, ?_⟩ | refine ⟨.inr rfl, ?_⟩)
        rintro k env L ⟨i, rfl, hi, hP, rfl, rfl⟩
        have hsort : Sorted xs i := sorted_of (by omega) (fun k x y hk ex ey => by
          obtain ⟨_, _, hb⟩ := hP (k + 1) y hk ey
          rcases hb with ⟨h0, _⟩ | ⟨_, z, ez, hz, _⟩
          · omega
          · rw [Nat.add_sub_cancel, ex] at ez; cases ez; exact hz)
        repeat (first | refine Ops.cons ?_ | refine Ops.nil ?_ | refine And.intro rfl ?_ | refine And.intro (Nat.le_of_ble_eq_true rfl) ?_ | refine And.intro (Int.natCast_nonneg _) ?_ | refine fun (_ : Nat) => ?_ | refine Ord.quiet rfl ?_ | refine Ord.loud rfl ?_ | refine Ord.nil ?_ | refine Run.seq ?_ | refine Run.text ?_ | refine Run.cond ?_ | refine Run.blk ?_ | refine Run.skip ?_ | refine Run.ret ?_ | refine Run.exit ?_ | refine Cont.seq ?_ | refine Cont.seq_ret ?_ | refine Cont.seq_exit ?_ | refine Cont.blk ?_ | refine Cont.blk_ret ?_ | refine Cont.blk_exit ?_ | refine Cont.lp_ret ?_ | refine Cont.lp_exit ?_ | refine Cont.nil ?_ | refine Cont.op rfl ?_ | refine OrdP.cons rfl ?_ | refine OrdP.nil ?_ | refine Run.scope ?_ | refine Run.label ?_ | refine Cont.sc ?_ | refine Cont.sc_ret ?_ | refine Cont.sc_exit ?_)
        refine ⟨fun h => ?_, fun h => ?_⟩
        · have h : (i : Int) < (n : Int) := h
          obtain ⟨x, ex⟩ : ∃ x, xs[i]? = some x := ⟨xs[i], List.getElem?_eq_getElem (by omega)⟩
          have bad : ¬ nodeOk pl kd xs i x → (51 : Int) = checkE st pl kd xs n := fun hb => no (fun h2 => hb (h2.2.2.2.2.2 i x (by omega) ex))
          repeat (first | refine Ops.cons ?_ | refine Ops.nil ?_ | refine And.intro rfl ?_ | refine And.intro (Nat.le_of_ble_eq_true rfl) ?_ | refine And.intro (Int.natCast_nonneg _) ?_ | refine fun (_ : Nat) => ?_ | refine Ord.quiet rfl ?_ | refine Ord.loud rfl ?_ | refine Ord.nil ?_ | refine Run.seq ?_ | refine Run.text ?_ | refine Run.cond ?_ | refine Run.blk ?_ | refine Run.skip ?_ | refine Run.ret ?_ | refine Run.exit ?_ | refine Cont.seq ?_ | refine Cont.seq_ret ?_ | refine Cont.seq_exit ?_ | refine Cont.blk ?_ | refine Cont.blk_ret ?_ | refine Cont.blk_exit ?_ | refine Cont.lp_ret ?_ | refine Cont.lp_exit ?_ | refine Cont.nil ?_ | refine Cont.op rfl ?_ | refine OrdP.cons rfl ?_ | refine OrdP.nil ?_ | refine Run.scope ?_ | refine Run.label ?_ | refine Cont.sc ?_ | refine Cont.sc_ret ?_ | refine Cont.sc_exit ?_)
          refine ⟨h, enc x, enc_at _ _ _ ex, ?_⟩
          repeat (first | refine Ops.cons ?_ | refine Ops.nil ?_ | refine And.intro rfl ?_ | refine And.intro (Nat.le_of_ble_eq_true rfl) ?_ | refine And.intro (Int.natCast_nonneg _) ?_ | refine fun (_ : Nat) => ?_ | refine Ord.quiet rfl ?_ | refine Ord.loud rfl ?_ | refine Ord.nil ?_ | refine Run.seq ?_ | refine Run.text ?_ | refine Run.cond ?_ | refine Run.blk ?_ | refine Run.skip ?_ | refine Run.ret ?_ | refine Run.exit ?_ | refine Cont.seq ?_ | refine Cont.seq_ret ?_ | refine Cont.seq_exit ?_ | refine Cont.blk ?_ | refine Cont.blk_ret ?_ | refine Cont.blk_exit ?_ | refine Cont.lp_ret ?_ | refine Cont.lp_exit ?_ | refine Cont.nil ?_ | refine Cont.op rfl ?_ | refine OrdP.cons rfl ?_ | refine OrdP.nil ?_ | refine Run.scope ?_ | refine Run.label ?_ | refine Cont.sc ?_ | refine Cont.sc_ret ?_ | refine Cont.sc_exit ?_)
          have c3 := isPlace_spec x.p
          have c4 := fits_spec x.d x.v
          have c5 := belongs_spec st pl kd xs n i x hn (by omega) (by omega) ex hps hsort
          cases e3 : decide (parseE x.p = 0) with
          | false =>
            rw [e3] at c3
            refine ACall.ret c3 ?_
            repeat (first | refine Ops.cons ?_ | refine Ops.nil ?_ | refine And.intro rfl ?_ | refine And.intro (Nat.le_of_ble_eq_true rfl) ?_ | refine And.intro (Int.natCast_nonneg _) ?_ | refine fun (_ : Nat) => ?_ | refine Ord.quiet rfl ?_ | refine Ord.loud rfl ?_ | refine Ord.nil ?_ | refine Run.seq ?_ | refine Run.text ?_ | refine Run.cond ?_ | refine Run.blk ?_ | refine Run.skip ?_ | refine Run.ret ?_ | refine Run.exit ?_ | refine Cont.seq ?_ | refine Cont.seq_ret ?_ | refine Cont.seq_exit ?_ | refine Cont.blk ?_ | refine Cont.blk_ret ?_ | refine Cont.blk_exit ?_ | refine Cont.lp_ret ?_ | refine Cont.lp_exit ?_ | refine Cont.nil ?_ | refine Cont.op rfl ?_ | refine OrdP.cons rfl ?_ | refine OrdP.nil ?_ | refine Run.scope ?_ | refine Run.label ?_ | refine Cont.sc ?_ | refine Cont.sc_ret ?_ | refine Cont.sc_exit ?_)
            exact ⟨_, [], FinOk.drop _ _, congrArg (AV.int .i64) (bad (fun hb => absurd hb.1 (of_decide_eq_false e3))), rfl⟩
          | true =>
            rw [e3] at c3
            refine ACall.ret c3 ?_
            repeat (first | refine Ops.cons ?_ | refine Ops.nil ?_ | refine And.intro rfl ?_ | refine And.intro (Nat.le_of_ble_eq_true rfl) ?_ | refine And.intro (Int.natCast_nonneg _) ?_ | refine fun (_ : Nat) => ?_ | refine Ord.quiet rfl ?_ | refine Ord.loud rfl ?_ | refine Ord.nil ?_ | refine Run.seq ?_ | refine Run.text ?_ | refine Run.cond ?_ | refine Run.blk ?_ | refine Run.skip ?_ | refine Run.ret ?_ | refine Run.exit ?_ | refine Cont.seq ?_ | refine Cont.seq_ret ?_ | refine Cont.seq_exit ?_ | refine Cont.blk ?_ | refine Cont.blk_ret ?_ | refine Cont.blk_exit ?_ | refine Cont.lp_ret ?_ | refine Cont.lp_exit ?_ | refine Cont.nil ?_ | refine Cont.op rfl ?_ | refine OrdP.cons rfl ?_ | refine OrdP.nil ?_ | refine Run.scope ?_ | refine Run.label ?_ | refine Cont.sc ?_ | refine Cont.sc_ret ?_ | refine Cont.sc_exit ?_)
            cases e4 : decide (x.d.size ≤ 64 ∧ 0 ≤ x.v ∧ x.v ≤ 2147483647) with
            | false =>
              rw [e4] at c4
              refine ACall.ret c4 ?_
              repeat (first | refine Ops.cons ?_ | refine Ops.nil ?_ | refine And.intro rfl ?_ | refine And.intro (Nat.le_of_ble_eq_true rfl) ?_ | refine And.intro (Int.natCast_nonneg _) ?_ | refine fun (_ : Nat) => ?_ | refine Ord.quiet rfl ?_ | refine Ord.loud rfl ?_ | refine Ord.nil ?_ | refine Run.seq ?_ | refine Run.text ?_ | refine Run.cond ?_ | refine Run.blk ?_ | refine Run.skip ?_ | refine Run.ret ?_ | refine Run.exit ?_ | refine Cont.seq ?_ | refine Cont.seq_ret ?_ | refine Cont.seq_exit ?_ | refine Cont.blk ?_ | refine Cont.blk_ret ?_ | refine Cont.blk_exit ?_ | refine Cont.lp_ret ?_ | refine Cont.lp_exit ?_ | refine Cont.nil ?_ | refine Cont.op rfl ?_ | refine OrdP.cons rfl ?_ | refine OrdP.nil ?_ | refine Run.scope ?_ | refine Run.label ?_ | refine Cont.sc ?_ | refine Cont.sc_ret ?_ | refine Cont.sc_exit ?_)
              exact ⟨_, [], FinOk.drop _ _, congrArg (AV.int .i64) (bad (fun hb => absurd hb.2.1 (of_decide_eq_false e4))), rfl⟩
            | true =>
              rw [e4] at c4
              refine ACall.ret c4 ?_
              repeat (first | refine Ops.cons ?_ | refine Ops.nil ?_ | refine And.intro rfl ?_ | refine And.intro (Nat.le_of_ble_eq_true rfl) ?_ | refine And.intro (Int.natCast_nonneg _) ?_ | refine fun (_ : Nat) => ?_ | refine Ord.quiet rfl ?_ | refine Ord.loud rfl ?_ | refine Ord.nil ?_ | refine Run.seq ?_ | refine Run.text ?_ | refine Run.cond ?_ | refine Run.blk ?_ | refine Run.skip ?_ | refine Run.ret ?_ | refine Run.exit ?_ | refine Cont.seq ?_ | refine Cont.seq_ret ?_ | refine Cont.seq_exit ?_ | refine Cont.blk ?_ | refine Cont.blk_ret ?_ | refine Cont.blk_exit ?_ | refine Cont.lp_ret ?_ | refine Cont.lp_exit ?_ | refine Cont.nil ?_ | refine Cont.op rfl ?_ | refine OrdP.cons rfl ?_ | refine OrdP.nil ?_ | refine Run.scope ?_ | refine Run.label ?_ | refine Cont.sc ?_ | refine Cont.sc_ret ?_ | refine Cont.sc_exit ?_)
              cases e5 : decide (belongsP pl kd xs i x) with
              | false =>
                rw [e5] at c5
                refine ACall.ret c5 ?_
                repeat (first | refine Ops.cons ?_ | refine Ops.nil ?_ | refine And.intro rfl ?_ | refine And.intro (Nat.le_of_ble_eq_true rfl) ?_ | refine And.intro (Int.natCast_nonneg _) ?_ | refine fun (_ : Nat) => ?_ | refine Ord.quiet rfl ?_ | refine Ord.loud rfl ?_ | refine Ord.nil ?_ | refine Run.seq ?_ | refine Run.text ?_ | refine Run.cond ?_ | refine Run.blk ?_ | refine Run.skip ?_ | refine Run.ret ?_ | refine Run.exit ?_ | refine Cont.seq ?_ | refine Cont.seq_ret ?_ | refine Cont.seq_exit ?_ | refine Cont.blk ?_ | refine Cont.blk_ret ?_ | refine Cont.blk_exit ?_ | refine Cont.lp_ret ?_ | refine Cont.lp_exit ?_ | refine Cont.nil ?_ | refine Cont.op rfl ?_ | refine OrdP.cons rfl ?_ | refine OrdP.nil ?_ | refine Run.scope ?_ | refine Run.label ?_ | refine Cont.sc ?_ | refine Cont.sc_ret ?_ | refine Cont.sc_exit ?_)
                exact ⟨_, [], FinOk.drop _ _, congrArg (AV.int .i64) (bad (fun hb => absurd hb.2.2 (of_decide_eq_false e5))), rfl⟩
              | true =>
                rw [e5] at c5
                refine ACall.ret c5 ?_
                repeat (first | refine Ops.cons ?_ | refine Ops.nil ?_ | refine And.intro rfl ?_ | refine And.intro (Nat.le_of_ble_eq_true rfl) ?_ | refine And.intro (Int.natCast_nonneg _) ?_ | refine fun (_ : Nat) => ?_ | refine Ord.quiet rfl ?_ | refine Ord.loud rfl ?_ | refine Ord.nil ?_ | refine Run.seq ?_ | refine Run.text ?_ | refine Run.cond ?_ | refine Run.blk ?_ | refine Run.skip ?_ | refine Run.ret ?_ | refine Run.exit ?_ | refine Cont.seq ?_ | refine Cont.seq_ret ?_ | refine Cont.seq_exit ?_ | refine Cont.blk ?_ | refine Cont.blk_ret ?_ | refine Cont.blk_exit ?_ | refine Cont.lp_ret ?_ | refine Cont.lp_exit ?_ | refine Cont.nil ?_ | refine Cont.op rfl ?_ | refine OrdP.cons rfl ?_ | refine OrdP.nil ?_ | refine Run.scope ?_ | refine Run.label ?_ | refine Cont.sc ?_ | refine Cont.sc_ret ?_ | refine Cont.sc_exit ?_)
                refine fun r hr => ?_
                obtain rfl := add1 hr (by omega)
                repeat (first | refine Ops.cons ?_ | refine Ops.nil ?_ | refine And.intro rfl ?_ | refine And.intro (Nat.le_of_ble_eq_true rfl) ?_ | refine And.intro (Int.natCast_nonneg _) ?_ | refine fun (_ : Nat) => ?_ | refine Ord.quiet rfl ?_ | refine Ord.loud rfl ?_ | refine Ord.nil ?_ | refine Run.seq ?_ | refine Run.text ?_ | refine Run.cond ?_ | refine Run.blk ?_ | refine Run.skip ?_ | refine Run.ret ?_ | refine Run.exit ?_ | refine Cont.seq ?_ | refine Cont.seq_ret ?_ | refine Cont.seq_exit ?_ | refine Cont.blk ?_ | refine Cont.blk_ret ?_ | refine Cont.blk_exit ?_ | refine Cont.lp_ret ?_ | refine Cont.lp_exit ?_ | refine Cont.nil ?_ | refine Cont.op rfl ?_ | refine OrdP.cons rfl ?_ | refine OrdP.nil ?_ | refine Run.scope ?_ | refine Run.label ?_ | refine Cont.sc ?_ | refine Cont.sc_ret ?_ | refine Cont.sc_exit ?_)
                refine Cont.lp ?_
                refine ⟨n - (i + 1), [.junk, .ptr 0 g1 0, .junk, .junk, .junk, .junk, .junk, .junk, .junk, .junk, .junk, .junk, .junk, .junk, .junk, .junk, .junk, .junk, .junk, .junk, .junk, .junk, .junk, .junk, .junk, .junk, .junk, .junk, .junk, .junk, .junk, .junk, .junk, .junk, .junk, .junk, .junk, .junk, .junk, .junk, .junk, rdo xs n, .int .i64 n, .int .i64 (i + 1 : Nat), .junk, .junk, .junk, .junk, .junk, .junk, .junk, .junk, .junk, .junk, .junk, .junk, .junk, .junk, .junk, .junk, .junk, .junk, .junk, .junk, .junk, .junk, .junk], 1, by omega, ?_, ⟨i + 1, rfl, by omega, ?_, rfl, rfl⟩⟩
                · repeat (first | exact trivial | refine ⟨.inl rfl, ?_⟩ | refine ⟨.inr rfl, ?_⟩)
                · intro j y hj ey
                  by_cases e : j = i
                  · subst e; rw [ex] at ey; cases ey; exact ⟨of_decide_eq_true e3, of_decide_eq_true e4, of_decide_eq_true e5⟩
                  · exact hP j y (by omega) ey
        · have h : ¬ (i : Int) < (n : Int) := h
          repeat (first | refine Ops.cons ?_ | refine Ops.nil ?_ | refine And.intro rfl ?_ | refine And.intro (Nat.le_of_ble_eq_true rfl) ?_ | refine And.intro (Int.natCast_nonneg _) ?_ | refine fun (_ : Nat) => ?_ | refine Ord.quiet rfl ?_ | refine Ord.loud rfl ?_ | refine Ord.nil ?_ | refine Run.seq ?_ | refine Run.text ?_ | refine Run.cond ?_ | refine Run.blk ?_ | refine Run.skip ?_ | refine Run.ret ?_ | refine Run.exit ?_ | refine Cont.seq ?_ | refine Cont.seq_ret ?_ | refine Cont.seq_exit ?_ | refine Cont.blk ?_ | refine Cont.blk_ret ?_ | refine Cont.blk_exit ?_ | refine Cont.lp_ret ?_ | refine Cont.lp_exit ?_ | refine Cont.nil ?_ | refine Cont.op rfl ?_ | refine OrdP.cons rfl ?_ | refine OrdP.nil ?_ | refine Run.scope ?_ | refine Run.label ?_ | refine Cont.sc ?_ | refine Cont.sc_ret ?_ | refine Cont.sc_exit ?_)
          exact ⟨_, [], FinOk.drop _ _, congrArg (AV.int .i64) (show (0 : Int) = _ by
            unfold checkE
            rw [if_pos]
            exact ⟨by omega, of_decide_eq_true hp, of_decide_eq_true hk, by omega, hne, fun j x hj ex => hP j x (by omega) ex⟩), rfl⟩

end Go.Proofs.YtfohedaadncefaaDoor.HBT
