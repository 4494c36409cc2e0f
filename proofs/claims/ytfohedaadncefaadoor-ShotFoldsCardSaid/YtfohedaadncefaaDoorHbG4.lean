/- The contracts of 'begins' and 'Covers' of the place text. -/
import Derived.Test.YtfohedaadncefaaDoorHbD8
import Derived.Test.YtfohedaadncefaaDoorHbG7
namespace Go.Proofs.YtfohedaadncefaaDoor.HBT
open Go Go.Proofs.YtfohedaadncefaaDoor.HB Go.RowKit
set_option maxRecDepth 8000

abbrev rds (l : List ByteArray) : AV := .ro 1 (l.map .str) l.length
theorem str_at (l : List ByteArray) (i : Nat) (x : ByteArray) (h : l[i]? = some x) : (l.map AV.str)[i]? = some (.str x) := by rw [List.getElem?_map, h]; rfl

/-- Does the first list begin with the second? -/
def beginsP (c w : List ByteArray) : Prop := w.length ≤ c.length ∧ ∀ i < w.length, c[i]? = w[i]?
noncomputable instance (c w : List ByteArray) : Decidable (beginsP c w) := Classical.propDecidable _

theorem begins_spec (c w : List ByteArray) (hc : c.length ≤ 1000) (hw : w.length ≤ 1000) : FnSpec C 75 [rds c, rds w] [] (fun r L' => r = .bool (decide (beginsP c w)) ∧ L' = []) := by
  refine FnSpec.start C_ok Tryd.func75 rfl rfl Tryd.ntmps75 ?_
  repeat (first | refine Ops.go ?_ | refine And.intro rfl ?_ | refine And.intro (Nat.le_of_ble_eq_true rfl) ?_ | refine And.intro (Int.natCast_nonneg _) ?_ | refine fun (_ : Nat) => ?_ | refine Ord.go ?_ | refine Run.go rfl ?_ | refine Cont.go rfl ?_ | refine OrdP.go ?_)
  refine ⟨fun h => ?_, fun h => ?_⟩
  · have h : (c.length : Int) < (w.length : Int) := h
    repeat (first | refine Ops.go ?_ | refine And.intro rfl ?_ | refine And.intro (Nat.le_of_ble_eq_true rfl) ?_ | refine And.intro (Int.natCast_nonneg _) ?_ | refine fun (_ : Nat) => ?_ | refine Ord.go ?_ | refine Run.go rfl ?_ | refine Cont.go rfl ?_ | refine OrdP.go ?_)
    exact ⟨_, [], FinOk.drop _ _, congrArg AV.bool (decide_eq_false (fun hb => by have := hb.1; omega)).symm, rfl⟩
  have h : ¬ (c.length : Int) < (w.length : Int) := h
  repeat (first | refine Ops.go ?_ | refine And.intro rfl ?_ | refine And.intro (Nat.le_of_ble_eq_true rfl) ?_ | refine And.intro (Int.natCast_nonneg _) ?_ | refine fun (_ : Nat) => ?_ | refine Ord.go ?_ | refine Run.go rfl ?_ | refine Cont.go rfl ?_ | refine OrdP.go ?_)
  refine Run.loop (fun k env L => ∃ i : Nat, k = w.length - i ∧ i ≤ w.length ∧ (∀ j < i, c[j]? = w[j]?) ∧ env = [rds c, rds w, .junk, .junk, .junk, .junk, .junk, .junk, .junk, .junk, .junk, .junk, rds w, .int .i64 w.length, .int .i64 i, .junk, .junk, .junk, .junk, .junk, .junk, .junk, .junk, .junk, .junk, .junk] ∧ L = []) w.length
    [rds c, rds w, .junk, .junk, .junk, .junk, .junk, .junk, .junk, .junk, .junk, .junk, rds w, .int .i64 w.length, .int .i64 (0 : Nat), .junk, .junk, .junk, .junk, .junk, .junk, .junk, .junk, .junk, .junk, .junk] ?_ ⟨0, by omega, by omega, (fun j hj => absurd hj (Nat.not_lt_zero j)), rfl, rfl⟩ ?_
  · repeat (first | exact trivial | refine ⟨.inl rfl, ?_⟩ | refine ⟨.inr rfl, ?_⟩)
  rintro k env L ⟨i, rfl, hi, hP, rfl, rfl⟩
  repeat (first | refine Ops.go ?_ | refine And.intro rfl ?_ | refine And.intro (Nat.le_of_ble_eq_true rfl) ?_ | refine And.intro (Int.natCast_nonneg _) ?_ | refine fun (_ : Nat) => ?_ | refine Ord.go ?_ | refine Run.go rfl ?_ | refine Cont.go rfl ?_ | refine OrdP.go ?_)
  refine ⟨fun h2 => ?_, fun h2 => ?_⟩
  · have h2 : (i : Int) < (w.length : Int) := h2
    obtain ⟨y, ey⟩ : ∃ y, w[i]? = some y := ⟨w[i], List.getElem?_eq_getElem (by omega)⟩
    obtain ⟨x, ex⟩ : ∃ x, c[i]? = some x := ⟨c[i]'(by omega), List.getElem?_eq_getElem (by omega)⟩
    repeat (first | refine Ops.go ?_ | refine And.intro rfl ?_ | refine And.intro (Nat.le_of_ble_eq_true rfl) ?_ | refine And.intro (Int.natCast_nonneg _) ?_ | refine fun (_ : Nat) => ?_ | refine Ord.go ?_ | refine Run.go rfl ?_ | refine Cont.go rfl ?_ | refine OrdP.go ?_)
    refine ⟨h2, .str y, str_at _ _ _ ey, ?_⟩
    repeat (first | refine Ops.go ?_ | refine And.intro rfl ?_ | refine And.intro (Nat.le_of_ble_eq_true rfl) ?_ | refine And.intro (Int.natCast_nonneg _) ?_ | refine fun (_ : Nat) => ?_ | refine Ord.go ?_ | refine Run.go rfl ?_ | refine Cont.go rfl ?_ | refine OrdP.go ?_)
    refine ⟨by omega, .str x, str_at _ _ _ ex, ?_⟩
    repeat (first | refine Ops.go ?_ | refine And.intro rfl ?_ | refine And.intro (Nat.le_of_ble_eq_true rfl) ?_ | refine And.intro (Int.natCast_nonneg _) ?_ | refine fun (_ : Nat) => ?_ | refine Ord.go ?_ | refine Run.go rfl ?_ | refine Cont.go rfl ?_ | refine OrdP.go ?_)
    refine ⟨fun hne => ?_, fun heq => ?_⟩
    · have hne : x ≠ y := hne
      repeat (first | refine Ops.go ?_ | refine And.intro rfl ?_ | refine And.intro (Nat.le_of_ble_eq_true rfl) ?_ | refine And.intro (Int.natCast_nonneg _) ?_ | refine fun (_ : Nat) => ?_ | refine Ord.go ?_ | refine Run.go rfl ?_ | refine Cont.go rfl ?_ | refine OrdP.go ?_)
      exact ⟨_, [], FinOk.drop _ _, congrArg AV.bool (decide_eq_false (fun hb => hne (by have := hb.2 i (by omega); rw [ex, ey] at this; exact Option.some.inj this))).symm, rfl⟩
    · have heq : x = y := Classical.not_not.1 heq
      subst heq
      repeat (first | refine Ops.go ?_ | refine And.intro rfl ?_ | refine And.intro (Nat.le_of_ble_eq_true rfl) ?_ | refine And.intro (Int.natCast_nonneg _) ?_ | refine fun (_ : Nat) => ?_ | refine Ord.go ?_ | refine Run.go rfl ?_ | refine Cont.go rfl ?_ | refine OrdP.go ?_)
      refine fun r hr => ?_
      obtain rfl := add1 hr (by omega)
      repeat (first | refine Ops.go ?_ | refine And.intro rfl ?_ | refine And.intro (Nat.le_of_ble_eq_true rfl) ?_ | refine And.intro (Int.natCast_nonneg _) ?_ | refine fun (_ : Nat) => ?_ | refine Ord.go ?_ | refine Run.go rfl ?_ | refine Cont.go rfl ?_ | refine OrdP.go ?_)
      refine Cont.lp ?_
      refine ⟨w.length - (i + 1), _, 99, by omega, ?_, ⟨i + 1, rfl, by omega, fun j hj => ?_, rfl, rfl⟩⟩
      · repeat (first | exact trivial | refine ⟨.inl rfl, ?_⟩ | refine ⟨.inr rfl, ?_⟩)
      · by_cases e : j = i
        · subst e; rw [ex, ey]
        · exact hP j (by omega)
  · have h2 : ¬ (i : Int) < (w.length : Int) := h2
    repeat (first | refine Ops.go ?_ | refine And.intro rfl ?_ | refine And.intro (Nat.le_of_ble_eq_true rfl) ?_ | refine And.intro (Int.natCast_nonneg _) ?_ | refine fun (_ : Nat) => ?_ | refine Ord.go ?_ | refine Run.go rfl ?_ | refine Cont.go rfl ?_ | refine OrdP.go ?_)
    exact ⟨_, [], FinOk.drop _ _, congrArg AV.bool (decide_eq_true ⟨by omega, fun j hj => hP j (by omega)⟩).symm, rfl⟩

/-- Is a change of that kind at a place one for the watch? -/
def coversP (kd : Int) (pl : ByteArray) (k : Int) (p : ByteArray) : Prop :=
  parseE pl = 0 ∧ parseE p = 0 ∧ 1 ≤ k ∧ k ≤ 3 ∧ beginsP (namesOf p) (namesOf pl) ∧
    ((kd = 1 ∧ (namesOf p).length = (namesOf pl).length) ∨ (kd = 2 ∧ k ≠ 2 ∧ (namesOf p).length ≤ (namesOf pl).length + 1) ∨ kd = 3)
noncomputable instance (kd : Int) (pl : ByteArray) (k : Int) (p : ByteArray) : Decidable (coversP kd pl k p) := Classical.propDecidable _

set_option maxHeartbeats 8000000 in
theorem covers_spec (kd : Int) (pl : ByteArray) (k : Int) (p : ByteArray) : FnSpec C 52 [.int .i64 kd, .str pl, .int .i64 k, .str p] [] (fun r L' => r = .bool (decide (coversP kd pl k p)) ∧ L' = []) := by
  have no : ¬ coversP kd pl k p → AV.bool false = AV.bool (decide (coversP kd pl k p)) := fun h => congrArg AV.bool (decide_eq_false h).symm
  have yes : coversP kd pl k p → AV.bool true = AV.bool (decide (coversP kd pl k p)) := fun h => congrArg AV.bool (decide_eq_true h).symm
  refine FnSpec.start C_ok Tryd.func52 rfl rfl Tryd.ntmps52 ?_
  repeat (first | refine Ops.go ?_ | refine And.intro rfl ?_ | refine And.intro (Nat.le_of_ble_eq_true rfl) ?_ | refine And.intro (Int.natCast_nonneg _) ?_ | refine fun (_ : Nat) => ?_ | refine Ord.go ?_ | refine Run.go rfl ?_ | refine Cont.go rfl ?_ | refine OrdP.go ?_)
  refine ACall.pure _ (parse_spec pl) ?_
  rintro r L' (⟨h, rfl, rfl⟩ | ⟨h, hn, rfl, rfl⟩ | ⟨h, hn, g, rfl, rfl⟩)
  · refine ⟨_, Sub.refl _, ?_⟩
    repeat (first | refine Ops.go ?_ | refine And.intro rfl ?_ | refine And.intro (Nat.le_of_ble_eq_true rfl) ?_ | refine And.intro (Int.natCast_nonneg _) ?_ | refine fun (_ : Nat) => ?_ | refine Ord.go ?_ | refine Run.go rfl ?_ | refine Cont.go rfl ?_ | refine OrdP.go ?_)
    refine ACall.pure _ (parse_spec p) ?_
    rintro r L' (⟨h', rfl, rfl⟩ | ⟨h', hn', rfl, rfl⟩ | ⟨h', hn', g', rfl, rfl⟩)
    · refine ⟨_, Sub.refl _, ?_⟩
      repeat (first | refine Ops.go ?_ | refine And.intro rfl ?_ | refine And.intro (Nat.le_of_ble_eq_true rfl) ?_ | refine And.intro (Int.natCast_nonneg _) ?_ | refine fun (_ : Nat) => ?_ | refine Ord.go ?_ | refine Run.go rfl ?_ | refine Cont.go rfl ?_ | refine OrdP.go ?_)
      refine ⟨fun _ => ?_, fun e => absurd h e⟩
      repeat (first | refine Ops.go ?_ | refine And.intro rfl ?_ | refine And.intro (Nat.le_of_ble_eq_true rfl) ?_ | refine And.intro (Int.natCast_nonneg _) ?_ | refine fun (_ : Nat) => ?_ | refine Ord.go ?_ | refine Run.go rfl ?_ | refine Cont.go rfl ?_ | refine OrdP.go ?_)
      exact ⟨_, [], FinOk.drop _ _, no (fun hc => h hc.1), rfl⟩
    · refine ⟨_, Sub.refl _, ?_⟩
      repeat (first | refine Ops.go ?_ | refine And.intro rfl ?_ | refine And.intro (Nat.le_of_ble_eq_true rfl) ?_ | refine And.intro (Int.natCast_nonneg _) ?_ | refine fun (_ : Nat) => ?_ | refine Ord.go ?_ | refine Run.go rfl ?_ | refine Cont.go rfl ?_ | refine OrdP.go ?_)
      refine ⟨fun _ => ?_, fun e => absurd h e⟩
      repeat (first | refine Ops.go ?_ | refine And.intro rfl ?_ | refine And.intro (Nat.le_of_ble_eq_true rfl) ?_ | refine And.intro (Int.natCast_nonneg _) ?_ | refine fun (_ : Nat) => ?_ | refine Ord.go ?_ | refine Run.go rfl ?_ | refine Cont.go rfl ?_ | refine OrdP.go ?_)
      exact ⟨_, [], FinOk.drop _ _, no (fun hc => h hc.1), rfl⟩
    · refine ⟨_, Sub.refl _, ?_⟩
      repeat (first | refine Ops.go ?_ | refine And.intro rfl ?_ | refine And.intro (Nat.le_of_ble_eq_true rfl) ?_ | refine And.intro (Int.natCast_nonneg _) ?_ | refine fun (_ : Nat) => ?_ | refine Ord.go ?_ | refine Run.go rfl ?_ | refine Cont.go rfl ?_ | refine OrdP.go ?_)
      refine ⟨fun _ => ?_, fun e => absurd h e⟩
      repeat (first | refine Ops.go ?_ | refine And.intro rfl ?_ | refine And.intro (Nat.le_of_ble_eq_true rfl) ?_ | refine And.intro (Int.natCast_nonneg _) ?_ | refine fun (_ : Nat) => ?_ | refine Ord.go ?_ | refine Run.go rfl ?_ | refine Cont.go rfl ?_ | refine OrdP.go ?_)
      exact ⟨_, [], FinOk.drop _ _, no (fun hc => h hc.1), rfl⟩
  · refine ⟨_, Sub.refl _, ?_⟩
    repeat (first | refine Ops.go ?_ | refine And.intro rfl ?_ | refine And.intro (Nat.le_of_ble_eq_true rfl) ?_ | refine And.intro (Int.natCast_nonneg _) ?_ | refine fun (_ : Nat) => ?_ | refine Ord.go ?_ | refine Run.go rfl ?_ | refine Cont.go rfl ?_ | refine OrdP.go ?_)
    refine ACall.pure _ (parse_spec p) ?_
    rintro r L' (⟨h', rfl, rfl⟩ | ⟨h', hn', rfl, rfl⟩ | ⟨h', hn', g', rfl, rfl⟩)
    · refine ⟨_, Sub.refl _, ?_⟩
      repeat (first | refine Ops.go ?_ | refine And.intro rfl ?_ | refine And.intro (Nat.le_of_ble_eq_true rfl) ?_ | refine And.intro (Int.natCast_nonneg _) ?_ | refine fun (_ : Nat) => ?_ | refine Ord.go ?_ | refine Run.go rfl ?_ | refine Cont.go rfl ?_ | refine OrdP.go ?_)
      refine ⟨fun e => absurd rfl e, fun _ => ?_⟩
      repeat (first | refine Ops.go ?_ | refine And.intro rfl ?_ | refine And.intro (Nat.le_of_ble_eq_true rfl) ?_ | refine And.intro (Int.natCast_nonneg _) ?_ | refine fun (_ : Nat) => ?_ | refine Ord.go ?_ | refine Run.go rfl ?_ | refine Cont.go rfl ?_ | refine OrdP.go ?_)
      refine ⟨fun _ => ?_, fun e => absurd h' e⟩
      repeat (first | refine Ops.go ?_ | refine And.intro rfl ?_ | refine And.intro (Nat.le_of_ble_eq_true rfl) ?_ | refine And.intro (Int.natCast_nonneg _) ?_ | refine fun (_ : Nat) => ?_ | refine Ord.go ?_ | refine Run.go rfl ?_ | refine Cont.go rfl ?_ | refine OrdP.go ?_)
      exact ⟨_, [], FinOk.drop _ _, no (fun hc => h' hc.2.1), rfl⟩
    · refine ⟨_, Sub.refl _, ?_⟩
      repeat (first | refine Ops.go ?_ | refine And.intro rfl ?_ | refine And.intro (Nat.le_of_ble_eq_true rfl) ?_ | refine And.intro (Int.natCast_nonneg _) ?_ | refine fun (_ : Nat) => ?_ | refine Ord.go ?_ | refine Run.go rfl ?_ | refine Cont.go rfl ?_ | refine OrdP.go ?_)
      refine ⟨fun e => absurd rfl e, fun _ => ?_⟩
      repeat (first | refine Ops.go ?_ | refine And.intro rfl ?_ | refine And.intro (Nat.le_of_ble_eq_true rfl) ?_ | refine And.intro (Int.natCast_nonneg _) ?_ | refine fun (_ : Nat) => ?_ | refine Ord.go ?_ | refine Run.go rfl ?_ | refine Cont.go rfl ?_ | refine OrdP.go ?_)
      refine ⟨fun e => absurd rfl e, fun _ => ?_⟩
      repeat (first | refine Ops.go ?_ | refine And.intro rfl ?_ | refine And.intro (Nat.le_of_ble_eq_true rfl) ?_ | refine And.intro (Int.natCast_nonneg _) ?_ | refine fun (_ : Nat) => ?_ | refine Ord.go ?_ | refine Run.go rfl ?_ | refine Cont.go rfl ?_ | refine OrdP.go ?_)
      refine ⟨fun hk => ?_, fun hk => ?_⟩
      · have hk : k < 1 := hk
        repeat (first | refine Ops.go ?_ | refine And.intro rfl ?_ | refine And.intro (Nat.le_of_ble_eq_true rfl) ?_ | refine And.intro (Int.natCast_nonneg _) ?_ | refine fun (_ : Nat) => ?_ | refine Ord.go ?_ | refine Run.go rfl ?_ | refine Cont.go rfl ?_ | refine OrdP.go ?_)
        exact ⟨_, [], FinOk.drop _ _, no (fun hc => by have := hc.2.2.1; omega), rfl⟩
      have hk1 : ¬ k < 1 := hk
      repeat (first | refine Ops.go ?_ | refine And.intro rfl ?_ | refine And.intro (Nat.le_of_ble_eq_true rfl) ?_ | refine And.intro (Int.natCast_nonneg _) ?_ | refine fun (_ : Nat) => ?_ | refine Ord.go ?_ | refine Run.go rfl ?_ | refine Cont.go rfl ?_ | refine OrdP.go ?_)
      refine ⟨fun hk => ?_, fun hk => ?_⟩
      · have hk : (3 : Int) < k := hk
        repeat (first | refine Ops.go ?_ | refine And.intro rfl ?_ | refine And.intro (Nat.le_of_ble_eq_true rfl) ?_ | refine And.intro (Int.natCast_nonneg _) ?_ | refine fun (_ : Nat) => ?_ | refine Ord.go ?_ | refine Run.go rfl ?_ | refine Cont.go rfl ?_ | refine OrdP.go ?_)
        exact ⟨_, [], FinOk.drop _ _, no (fun hc => by have := hc.2.2.2.1; omega), rfl⟩
      have hk3 : ¬ (3 : Int) < k := hk
      repeat (first | refine Ops.go ?_ | refine And.intro rfl ?_ | refine And.intro (Nat.le_of_ble_eq_true rfl) ?_ | refine And.intro (Int.natCast_nonneg _) ?_ | refine fun (_ : Nat) => ?_ | refine Ord.go ?_ | refine Run.go rfl ?_ | refine Cont.go rfl ?_ | refine OrdP.go ?_)
      by_cases hb : beginsP ([] : List ByteArray) ([] : List ByteArray)
      case neg =>
        have c1 := begins_spec ([] : List ByteArray) ([] : List ByteArray) (by simp) (by simp)
        rw [decide_eq_false hb] at c1
        refine ACall.ret_lend (.two (.nils 1) (.nils 1)) c1 rfl ?_
        repeat (first | refine Ops.go ?_ | refine And.intro rfl ?_ | refine And.intro (Nat.le_of_ble_eq_true rfl) ?_ | refine And.intro (Int.natCast_nonneg _) ?_ | refine fun (_ : Nat) => ?_ | refine Ord.go ?_ | refine Run.go rfl ?_ | refine Cont.go rfl ?_ | refine OrdP.go ?_)
        exact ⟨_, [], FinOk.drop _ _, no (fun hc => hb (by have := hc.2.2.2.2.1; rw [hn', hn] at this; exact this)), rfl⟩
      have c1 := begins_spec ([] : List ByteArray) ([] : List ByteArray) (by simp) (by simp)
      rw [decide_eq_true hb] at c1
      refine ACall.ret_lend (.two (.nils 1) (.nils 1)) c1 rfl ?_
      repeat (first | refine Ops.go ?_ | refine And.intro rfl ?_ | refine And.intro (Nat.le_of_ble_eq_true rfl) ?_ | refine And.intro (Int.natCast_nonneg _) ?_ | refine fun (_ : Nat) => ?_ | refine Ord.go ?_ | refine Run.go rfl ?_ | refine Cont.go rfl ?_ | refine OrdP.go ?_)
      refine ⟨fun hd => ?_, fun hd => ?_⟩
      · have hd : kd = 1 := hd
        repeat (first | refine Ops.go ?_ | refine And.intro rfl ?_ | refine And.intro (Nat.le_of_ble_eq_true rfl) ?_ | refine And.intro (Int.natCast_nonneg _) ?_ | refine fun (_ : Nat) => ?_ | refine Ord.go ?_ | refine Run.go rfl ?_ | refine Cont.go rfl ?_ | refine OrdP.go ?_)
        refine ⟨fun hl => ?_, fun hl => ?_⟩
        · have hl : (0 : Int) = (0 : Int) := hl
          repeat (first | refine Ops.go ?_ | refine And.intro rfl ?_ | refine And.intro (Nat.le_of_ble_eq_true rfl) ?_ | refine And.intro (Int.natCast_nonneg _) ?_ | refine fun (_ : Nat) => ?_ | refine Ord.go ?_ | refine Run.go rfl ?_ | refine Cont.go rfl ?_ | refine OrdP.go ?_)
          exact ⟨_, [], FinOk.drop _ _, yes (⟨h, h', by omega, by omega, by rw [hn', hn]; exact hb, .inl ⟨hd, by rw [hn', hn] <;> first | omega | (simp only [List.length_nil]; omega)⟩⟩), rfl⟩
        · have hl : ¬ (0 : Int) = (0 : Int) := hl
          repeat (first | refine Ops.go ?_ | refine And.intro rfl ?_ | refine And.intro (Nat.le_of_ble_eq_true rfl) ?_ | refine And.intro (Int.natCast_nonneg _) ?_ | refine fun (_ : Nat) => ?_ | refine Ord.go ?_ | refine Run.go rfl ?_ | refine Cont.go rfl ?_ | refine OrdP.go ?_)
          exact ⟨_, [], FinOk.drop _ _, no (fun hc => by rcases hc.2.2.2.2.2 with h | h | h; have := h.2; rw [hn', hn] at this; (first | omega | (simp only [List.length_nil] at this; omega)); have := h.1; omega; omega), rfl⟩
      have hd1 : ¬ kd = 1 := hd
      repeat (first | refine Ops.go ?_ | refine And.intro rfl ?_ | refine And.intro (Nat.le_of_ble_eq_true rfl) ?_ | refine And.intro (Int.natCast_nonneg _) ?_ | refine fun (_ : Nat) => ?_ | refine Ord.go ?_ | refine Run.go rfl ?_ | refine Cont.go rfl ?_ | refine OrdP.go ?_)
      refine ⟨fun hd => ?_, fun hd => ?_⟩
      · have hd : kd = 2 := hd
        repeat (first | refine Ops.go ?_ | refine And.intro rfl ?_ | refine And.intro (Nat.le_of_ble_eq_true rfl) ?_ | refine And.intro (Int.natCast_nonneg _) ?_ | refine fun (_ : Nat) => ?_ | refine Ord.go ?_ | refine Run.go rfl ?_ | refine Cont.go rfl ?_ | refine OrdP.go ?_)
        refine ⟨fun hs => ?_, fun hs => ?_⟩
        · have hs : k ≠ 2 := hs
          repeat (first | refine Ops.go ?_ | refine And.intro rfl ?_ | refine And.intro (Nat.le_of_ble_eq_true rfl) ?_ | refine And.intro (Int.natCast_nonneg _) ?_ | refine fun (_ : Nat) => ?_ | refine Ord.go ?_ | refine Run.go rfl ?_ | refine Cont.go rfl ?_ | refine OrdP.go ?_)
          refine fun r hr => ?_
          obtain rfl : r = ((0 + 1 : Nat) : Int) := by rw [hr, IntKind.wrap_i64]; omega
          repeat (first | refine Ops.go ?_ | refine And.intro rfl ?_ | refine And.intro (Nat.le_of_ble_eq_true rfl) ?_ | refine And.intro (Int.natCast_nonneg _) ?_ | refine fun (_ : Nat) => ?_ | refine Ord.go ?_ | refine Run.go rfl ?_ | refine Cont.go rfl ?_ | refine OrdP.go ?_)
          refine ⟨fun hl => ?_, fun hl => ?_⟩
          · have hl : (0 : Int) ≤ ((0 + 1 : Nat) : Int) := hl
            repeat (first | refine Ops.go ?_ | refine And.intro rfl ?_ | refine And.intro (Nat.le_of_ble_eq_true rfl) ?_ | refine And.intro (Int.natCast_nonneg _) ?_ | refine fun (_ : Nat) => ?_ | refine Ord.go ?_ | refine Run.go rfl ?_ | refine Cont.go rfl ?_ | refine OrdP.go ?_)
            exact ⟨_, [], FinOk.drop _ _, yes (⟨h, h', by omega, by omega, by rw [hn', hn]; exact hb, .inr (.inl ⟨hd, hs, by rw [hn', hn] <;> first | omega | (simp only [List.length_nil]; omega)⟩)⟩), rfl⟩
          · have hl : ¬ (0 : Int) ≤ ((0 + 1 : Nat) : Int) := hl
            repeat (first | refine Ops.go ?_ | refine And.intro rfl ?_ | refine And.intro (Nat.le_of_ble_eq_true rfl) ?_ | refine And.intro (Int.natCast_nonneg _) ?_ | refine fun (_ : Nat) => ?_ | refine Ord.go ?_ | refine Run.go rfl ?_ | refine Cont.go rfl ?_ | refine OrdP.go ?_)
            exact ⟨_, [], FinOk.drop _ _, no (fun hc => by rcases hc.2.2.2.2.2 with h | h | h; have := h.1; omega; have := h.2.2; rw [hn', hn] at this; (first | omega | (simp only [List.length_nil] at this; omega)); omega), rfl⟩
        · have hs : k = 2 := Classical.not_not.1 hs
          repeat (first | refine Ops.go ?_ | refine And.intro rfl ?_ | refine And.intro (Nat.le_of_ble_eq_true rfl) ?_ | refine And.intro (Int.natCast_nonneg _) ?_ | refine fun (_ : Nat) => ?_ | refine Ord.go ?_ | refine Run.go rfl ?_ | refine Cont.go rfl ?_ | refine OrdP.go ?_)
          exact ⟨_, [], FinOk.drop _ _, no (fun hc => by rcases hc.2.2.2.2.2 with h | h | h; have := h.1; omega; exact h.2.1 hs; omega), rfl⟩
      have hd2 : ¬ kd = 2 := hd
      repeat (first | refine Ops.go ?_ | refine And.intro rfl ?_ | refine And.intro (Nat.le_of_ble_eq_true rfl) ?_ | refine And.intro (Int.natCast_nonneg _) ?_ | refine fun (_ : Nat) => ?_ | refine Ord.go ?_ | refine Run.go rfl ?_ | refine Cont.go rfl ?_ | refine OrdP.go ?_)
      refine ⟨fun hd => ?_, fun hd => ?_⟩
      · have hd : kd = 3 := hd
        repeat (first | refine Ops.go ?_ | refine And.intro rfl ?_ | refine And.intro (Nat.le_of_ble_eq_true rfl) ?_ | refine And.intro (Int.natCast_nonneg _) ?_ | refine fun (_ : Nat) => ?_ | refine Ord.go ?_ | refine Run.go rfl ?_ | refine Cont.go rfl ?_ | refine OrdP.go ?_)
        exact ⟨_, [], FinOk.drop _ _, yes (⟨h, h', by omega, by omega, by rw [hn', hn]; exact hb, .inr (.inr hd)⟩), rfl⟩
      · have hd : ¬ kd = 3 := hd
        repeat (first | refine Ops.go ?_ | refine And.intro rfl ?_ | refine And.intro (Nat.le_of_ble_eq_true rfl) ?_ | refine And.intro (Int.natCast_nonneg _) ?_ | refine fun (_ : Nat) => ?_ | refine Ord.go ?_ | refine Run.go rfl ?_ | refine Cont.go rfl ?_ | refine OrdP.go ?_)
        exact ⟨_, [], FinOk.drop _ _, no (fun hc => by rcases hc.2.2.2.2.2 with h | h | h; have := h.1; omega; have := h.1; omega; omega), rfl⟩
    · refine ⟨_, Sub.refl _, ?_⟩
      repeat (first | refine Ops.go ?_ | refine And.intro rfl ?_ | refine And.intro (Nat.le_of_ble_eq_true rfl) ?_ | refine And.intro (Int.natCast_nonneg _) ?_ | refine fun (_ : Nat) => ?_ | refine Ord.go ?_ | refine Run.go rfl ?_ | refine Cont.go rfl ?_ | refine OrdP.go ?_)
      refine ⟨fun e => absurd rfl e, fun _ => ?_⟩
      repeat (first | refine Ops.go ?_ | refine And.intro rfl ?_ | refine And.intro (Nat.le_of_ble_eq_true rfl) ?_ | refine And.intro (Int.natCast_nonneg _) ?_ | refine fun (_ : Nat) => ?_ | refine Ord.go ?_ | refine Run.go rfl ?_ | refine Cont.go rfl ?_ | refine OrdP.go ?_)
      refine ⟨fun e => absurd rfl e, fun _ => ?_⟩
      repeat (first | refine Ops.go ?_ | refine And.intro rfl ?_ | refine And.intro (Nat.le_of_ble_eq_true rfl) ?_ | refine And.intro (Int.natCast_nonneg _) ?_ | refine fun (_ : Nat) => ?_ | refine Ord.go ?_ | refine Run.go rfl ?_ | refine Cont.go rfl ?_ | refine OrdP.go ?_)
      refine ⟨fun hk => ?_, fun hk => ?_⟩
      · have hk : k < 1 := hk
        repeat (first | refine Ops.go ?_ | refine And.intro rfl ?_ | refine And.intro (Nat.le_of_ble_eq_true rfl) ?_ | refine And.intro (Int.natCast_nonneg _) ?_ | refine fun (_ : Nat) => ?_ | refine Ord.go ?_ | refine Run.go rfl ?_ | refine Cont.go rfl ?_ | refine OrdP.go ?_)
        exact ⟨_, [], FinOk.drop _ _, no (fun hc => by have := hc.2.2.1; omega), rfl⟩
      have hk1 : ¬ k < 1 := hk
      repeat (first | refine Ops.go ?_ | refine And.intro rfl ?_ | refine And.intro (Nat.le_of_ble_eq_true rfl) ?_ | refine And.intro (Int.natCast_nonneg _) ?_ | refine fun (_ : Nat) => ?_ | refine Ord.go ?_ | refine Run.go rfl ?_ | refine Cont.go rfl ?_ | refine OrdP.go ?_)
      refine ⟨fun hk => ?_, fun hk => ?_⟩
      · have hk : (3 : Int) < k := hk
        repeat (first | refine Ops.go ?_ | refine And.intro rfl ?_ | refine And.intro (Nat.le_of_ble_eq_true rfl) ?_ | refine And.intro (Int.natCast_nonneg _) ?_ | refine fun (_ : Nat) => ?_ | refine Ord.go ?_ | refine Run.go rfl ?_ | refine Cont.go rfl ?_ | refine OrdP.go ?_)
        exact ⟨_, [], FinOk.drop _ _, no (fun hc => by have := hc.2.2.2.1; omega), rfl⟩
      have hk3 : ¬ (3 : Int) < k := hk
      repeat (first | refine Ops.go ?_ | refine And.intro rfl ?_ | refine And.intro (Nat.le_of_ble_eq_true rfl) ?_ | refine And.intro (Int.natCast_nonneg _) ?_ | refine fun (_ : Nat) => ?_ | refine Ord.go ?_ | refine Run.go rfl ?_ | refine Cont.go rfl ?_ | refine OrdP.go ?_)
      by_cases hb : beginsP (namesOf p) ([] : List ByteArray)
      case neg =>
        have c1 := begins_spec (namesOf p) ([] : List ByteArray) (by omega) (by simp)
        rw [decide_eq_false hb] at c1
        refine ACall.ret_lend (.two (.row 0 g' _ (namesOf p).length 9 1 ((namesOf p).map .str) rfl (by rw [List.length_map]; exact Nat.le_refl _)) (.nils 1)) c1 rfl ?_
        repeat (first | refine Ops.go ?_ | refine And.intro rfl ?_ | refine And.intro (Nat.le_of_ble_eq_true rfl) ?_ | refine And.intro (Int.natCast_nonneg _) ?_ | refine fun (_ : Nat) => ?_ | refine Ord.go ?_ | refine Run.go rfl ?_ | refine Cont.go rfl ?_ | refine OrdP.go ?_)
        exact ⟨_, [], FinOk.drop _ _, no (fun hc => hb (by have := hc.2.2.2.2.1; rw [(rfl : namesOf p = namesOf p), hn] at this; exact this)), rfl⟩
      have c1 := begins_spec (namesOf p) ([] : List ByteArray) (by omega) (by simp)
      rw [decide_eq_true hb] at c1
      refine ACall.ret_lend (.two (.row 0 g' _ (namesOf p).length 9 1 ((namesOf p).map .str) rfl (by rw [List.length_map]; exact Nat.le_refl _)) (.nils 1)) c1 rfl ?_
      repeat (first | refine Ops.go ?_ | refine And.intro rfl ?_ | refine And.intro (Nat.le_of_ble_eq_true rfl) ?_ | refine And.intro (Int.natCast_nonneg _) ?_ | refine fun (_ : Nat) => ?_ | refine Ord.go ?_ | refine Run.go rfl ?_ | refine Cont.go rfl ?_ | refine OrdP.go ?_)
      refine ⟨fun hd => ?_, fun hd => ?_⟩
      · have hd : kd = 1 := hd
        repeat (first | refine Ops.go ?_ | refine And.intro rfl ?_ | refine And.intro (Nat.le_of_ble_eq_true rfl) ?_ | refine And.intro (Int.natCast_nonneg _) ?_ | refine fun (_ : Nat) => ?_ | refine Ord.go ?_ | refine Run.go rfl ?_ | refine Cont.go rfl ?_ | refine OrdP.go ?_)
        refine ⟨fun hl => ?_, fun hl => ?_⟩
        · have hl : ((namesOf p).length : Int) = (0 : Int) := hl
          repeat (first | refine Ops.go ?_ | refine And.intro rfl ?_ | refine And.intro (Nat.le_of_ble_eq_true rfl) ?_ | refine And.intro (Int.natCast_nonneg _) ?_ | refine fun (_ : Nat) => ?_ | refine Ord.go ?_ | refine Run.go rfl ?_ | refine Cont.go rfl ?_ | refine OrdP.go ?_)
          exact ⟨_, [], FinOk.drop _ _, yes (⟨h, h', by omega, by omega, by rw [(rfl : namesOf p = namesOf p), hn]; exact hb, .inl ⟨hd, by rw [(rfl : namesOf p = namesOf p), hn] <;> first | omega | (simp only [List.length_nil]; omega)⟩⟩), rfl⟩
        · have hl : ¬ ((namesOf p).length : Int) = (0 : Int) := hl
          repeat (first | refine Ops.go ?_ | refine And.intro rfl ?_ | refine And.intro (Nat.le_of_ble_eq_true rfl) ?_ | refine And.intro (Int.natCast_nonneg _) ?_ | refine fun (_ : Nat) => ?_ | refine Ord.go ?_ | refine Run.go rfl ?_ | refine Cont.go rfl ?_ | refine OrdP.go ?_)
          exact ⟨_, [], FinOk.drop _ _, no (fun hc => by rcases hc.2.2.2.2.2 with h | h | h; have := h.2; rw [(rfl : namesOf p = namesOf p), hn] at this; (first | omega | (simp only [List.length_nil] at this; omega)); have := h.1; omega; omega), rfl⟩
      have hd1 : ¬ kd = 1 := hd
      repeat (first | refine Ops.go ?_ | refine And.intro rfl ?_ | refine And.intro (Nat.le_of_ble_eq_true rfl) ?_ | refine And.intro (Int.natCast_nonneg _) ?_ | refine fun (_ : Nat) => ?_ | refine Ord.go ?_ | refine Run.go rfl ?_ | refine Cont.go rfl ?_ | refine OrdP.go ?_)
      refine ⟨fun hd => ?_, fun hd => ?_⟩
      · have hd : kd = 2 := hd
        repeat (first | refine Ops.go ?_ | refine And.intro rfl ?_ | refine And.intro (Nat.le_of_ble_eq_true rfl) ?_ | refine And.intro (Int.natCast_nonneg _) ?_ | refine fun (_ : Nat) => ?_ | refine Ord.go ?_ | refine Run.go rfl ?_ | refine Cont.go rfl ?_ | refine OrdP.go ?_)
        refine ⟨fun hs => ?_, fun hs => ?_⟩
        · have hs : k ≠ 2 := hs
          repeat (first | refine Ops.go ?_ | refine And.intro rfl ?_ | refine And.intro (Nat.le_of_ble_eq_true rfl) ?_ | refine And.intro (Int.natCast_nonneg _) ?_ | refine fun (_ : Nat) => ?_ | refine Ord.go ?_ | refine Run.go rfl ?_ | refine Cont.go rfl ?_ | refine OrdP.go ?_)
          refine fun r hr => ?_
          obtain rfl : r = ((0 + 1 : Nat) : Int) := by rw [hr, IntKind.wrap_i64]; omega
          repeat (first | refine Ops.go ?_ | refine And.intro rfl ?_ | refine And.intro (Nat.le_of_ble_eq_true rfl) ?_ | refine And.intro (Int.natCast_nonneg _) ?_ | refine fun (_ : Nat) => ?_ | refine Ord.go ?_ | refine Run.go rfl ?_ | refine Cont.go rfl ?_ | refine OrdP.go ?_)
          refine ⟨fun hl => ?_, fun hl => ?_⟩
          · have hl : ((namesOf p).length : Int) ≤ ((0 + 1 : Nat) : Int) := hl
            repeat (first | refine Ops.go ?_ | refine And.intro rfl ?_ | refine And.intro (Nat.le_of_ble_eq_true rfl) ?_ | refine And.intro (Int.natCast_nonneg _) ?_ | refine fun (_ : Nat) => ?_ | refine Ord.go ?_ | refine Run.go rfl ?_ | refine Cont.go rfl ?_ | refine OrdP.go ?_)
            exact ⟨_, [], FinOk.drop _ _, yes (⟨h, h', by omega, by omega, by rw [(rfl : namesOf p = namesOf p), hn]; exact hb, .inr (.inl ⟨hd, hs, by rw [(rfl : namesOf p = namesOf p), hn] <;> first | omega | (simp only [List.length_nil]; omega)⟩)⟩), rfl⟩
          · have hl : ¬ ((namesOf p).length : Int) ≤ ((0 + 1 : Nat) : Int) := hl
            repeat (first | refine Ops.go ?_ | refine And.intro rfl ?_ | refine And.intro (Nat.le_of_ble_eq_true rfl) ?_ | refine And.intro (Int.natCast_nonneg _) ?_ | refine fun (_ : Nat) => ?_ | refine Ord.go ?_ | refine Run.go rfl ?_ | refine Cont.go rfl ?_ | refine OrdP.go ?_)
            exact ⟨_, [], FinOk.drop _ _, no (fun hc => by rcases hc.2.2.2.2.2 with h | h | h; have := h.1; omega; have := h.2.2; rw [(rfl : namesOf p = namesOf p), hn] at this; (first | omega | (simp only [List.length_nil] at this; omega)); omega), rfl⟩
        · have hs : k = 2 := Classical.not_not.1 hs
          repeat (first | refine Ops.go ?_ | refine And.intro rfl ?_ | refine And.intro (Nat.le_of_ble_eq_true rfl) ?_ | refine And.intro (Int.natCast_nonneg _) ?_ | refine fun (_ : Nat) => ?_ | refine Ord.go ?_ | refine Run.go rfl ?_ | refine Cont.go rfl ?_ | refine OrdP.go ?_)
          exact ⟨_, [], FinOk.drop _ _, no (fun hc => by rcases hc.2.2.2.2.2 with h | h | h; have := h.1; omega; exact h.2.1 hs; omega), rfl⟩
      have hd2 : ¬ kd = 2 := hd
      repeat (first | refine Ops.go ?_ | refine And.intro rfl ?_ | refine And.intro (Nat.le_of_ble_eq_true rfl) ?_ | refine And.intro (Int.natCast_nonneg _) ?_ | refine fun (_ : Nat) => ?_ | refine Ord.go ?_ | refine Run.go rfl ?_ | refine Cont.go rfl ?_ | refine OrdP.go ?_)
      refine ⟨fun hd => ?_, fun hd => ?_⟩
      · have hd : kd = 3 := hd
        repeat (first | refine Ops.go ?_ | refine And.intro rfl ?_ | refine And.intro (Nat.le_of_ble_eq_true rfl) ?_ | refine And.intro (Int.natCast_nonneg _) ?_ | refine fun (_ : Nat) => ?_ | refine Ord.go ?_ | refine Run.go rfl ?_ | refine Cont.go rfl ?_ | refine OrdP.go ?_)
        exact ⟨_, [], FinOk.drop _ _, yes (⟨h, h', by omega, by omega, by rw [(rfl : namesOf p = namesOf p), hn]; exact hb, .inr (.inr hd)⟩), rfl⟩
      · have hd : ¬ kd = 3 := hd
        repeat (first | refine Ops.go ?_ | refine And.intro rfl ?_ | refine And.intro (Nat.le_of_ble_eq_true rfl) ?_ | refine And.intro (Int.natCast_nonneg _) ?_ | refine fun (_ : Nat) => ?_ | refine Ord.go ?_ | refine Run.go rfl ?_ | refine Cont.go rfl ?_ | refine OrdP.go ?_)
        exact ⟨_, [], FinOk.drop _ _, no (fun hc => by rcases hc.2.2.2.2.2 with h | h | h; have := h.1; omega; have := h.1; omega; omega), rfl⟩
  · refine ⟨_, Sub.refl _, ?_⟩
    repeat (first | refine Ops.go ?_ | refine And.intro rfl ?_ | refine And.intro (Nat.le_of_ble_eq_true rfl) ?_ | refine And.intro (Int.natCast_nonneg _) ?_ | refine fun (_ : Nat) => ?_ | refine Ord.go ?_ | refine Run.go rfl ?_ | refine Cont.go rfl ?_ | refine OrdP.go ?_)
    refine ACall.pure _ (parse_spec p) ?_
    rintro r L' (⟨h', rfl, rfl⟩ | ⟨h', hn', rfl, rfl⟩ | ⟨h', hn', g', rfl, rfl⟩)
    · refine ⟨_, Sub.refl _, ?_⟩
      repeat (first | refine Ops.go ?_ | refine And.intro rfl ?_ | refine And.intro (Nat.le_of_ble_eq_true rfl) ?_ | refine And.intro (Int.natCast_nonneg _) ?_ | refine fun (_ : Nat) => ?_ | refine Ord.go ?_ | refine Run.go rfl ?_ | refine Cont.go rfl ?_ | refine OrdP.go ?_)
      refine ⟨fun e => absurd rfl e, fun _ => ?_⟩
      repeat (first | refine Ops.go ?_ | refine And.intro rfl ?_ | refine And.intro (Nat.le_of_ble_eq_true rfl) ?_ | refine And.intro (Int.natCast_nonneg _) ?_ | refine fun (_ : Nat) => ?_ | refine Ord.go ?_ | refine Run.go rfl ?_ | refine Cont.go rfl ?_ | refine OrdP.go ?_)
      refine ⟨fun _ => ?_, fun e => absurd h' e⟩
      repeat (first | refine Ops.go ?_ | refine And.intro rfl ?_ | refine And.intro (Nat.le_of_ble_eq_true rfl) ?_ | refine And.intro (Int.natCast_nonneg _) ?_ | refine fun (_ : Nat) => ?_ | refine Ord.go ?_ | refine Run.go rfl ?_ | refine Cont.go rfl ?_ | refine OrdP.go ?_)
      exact ⟨_, [], FinOk.drop _ _, no (fun hc => h' hc.2.1), rfl⟩
    · refine ⟨_, Sub.refl _, ?_⟩
      repeat (first | refine Ops.go ?_ | refine And.intro rfl ?_ | refine And.intro (Nat.le_of_ble_eq_true rfl) ?_ | refine And.intro (Int.natCast_nonneg _) ?_ | refine fun (_ : Nat) => ?_ | refine Ord.go ?_ | refine Run.go rfl ?_ | refine Cont.go rfl ?_ | refine OrdP.go ?_)
      refine ⟨fun e => absurd rfl e, fun _ => ?_⟩
      repeat (first | refine Ops.go ?_ | refine And.intro rfl ?_ | refine And.intro (Nat.le_of_ble_eq_true rfl) ?_ | refine And.intro (Int.natCast_nonneg _) ?_ | refine fun (_ : Nat) => ?_ | refine Ord.go ?_ | refine Run.go rfl ?_ | refine Cont.go rfl ?_ | refine OrdP.go ?_)
      refine ⟨fun e => absurd rfl e, fun _ => ?_⟩
      repeat (first | refine Ops.go ?_ | refine And.intro rfl ?_ | refine And.intro (Nat.le_of_ble_eq_true rfl) ?_ | refine And.intro (Int.natCast_nonneg _) ?_ | refine fun (_ : Nat) => ?_ | refine Ord.go ?_ | refine Run.go rfl ?_ | refine Cont.go rfl ?_ | refine OrdP.go ?_)
      refine ⟨fun hk => ?_, fun hk => ?_⟩
      · have hk : k < 1 := hk
        repeat (first | refine Ops.go ?_ | refine And.intro rfl ?_ | refine And.intro (Nat.le_of_ble_eq_true rfl) ?_ | refine And.intro (Int.natCast_nonneg _) ?_ | refine fun (_ : Nat) => ?_ | refine Ord.go ?_ | refine Run.go rfl ?_ | refine Cont.go rfl ?_ | refine OrdP.go ?_)
        exact ⟨_, [], FinOk.drop _ _, no (fun hc => by have := hc.2.2.1; omega), rfl⟩
      have hk1 : ¬ k < 1 := hk
      repeat (first | refine Ops.go ?_ | refine And.intro rfl ?_ | refine And.intro (Nat.le_of_ble_eq_true rfl) ?_ | refine And.intro (Int.natCast_nonneg _) ?_ | refine fun (_ : Nat) => ?_ | refine Ord.go ?_ | refine Run.go rfl ?_ | refine Cont.go rfl ?_ | refine OrdP.go ?_)
      refine ⟨fun hk => ?_, fun hk => ?_⟩
      · have hk : (3 : Int) < k := hk
        repeat (first | refine Ops.go ?_ | refine And.intro rfl ?_ | refine And.intro (Nat.le_of_ble_eq_true rfl) ?_ | refine And.intro (Int.natCast_nonneg _) ?_ | refine fun (_ : Nat) => ?_ | refine Ord.go ?_ | refine Run.go rfl ?_ | refine Cont.go rfl ?_ | refine OrdP.go ?_)
        exact ⟨_, [], FinOk.drop _ _, no (fun hc => by have := hc.2.2.2.1; omega), rfl⟩
      have hk3 : ¬ (3 : Int) < k := hk
      repeat (first | refine Ops.go ?_ | refine And.intro rfl ?_ | refine And.intro (Nat.le_of_ble_eq_true rfl) ?_ | refine And.intro (Int.natCast_nonneg _) ?_ | refine fun (_ : Nat) => ?_ | refine Ord.go ?_ | refine Run.go rfl ?_ | refine Cont.go rfl ?_ | refine OrdP.go ?_)
      by_cases hb : beginsP ([] : List ByteArray) (namesOf pl)
      case neg =>
        have c1 := begins_spec ([] : List ByteArray) (namesOf pl) (by simp) (by omega)
        rw [decide_eq_false hb] at c1
        refine ACall.ret_lend (.two (.nils 1) (.row 0 g _ (namesOf pl).length 9 1 ((namesOf pl).map .str) rfl (by rw [List.length_map]; exact Nat.le_refl _))) c1 rfl ?_
        repeat (first | refine Ops.go ?_ | refine And.intro rfl ?_ | refine And.intro (Nat.le_of_ble_eq_true rfl) ?_ | refine And.intro (Int.natCast_nonneg _) ?_ | refine fun (_ : Nat) => ?_ | refine Ord.go ?_ | refine Run.go rfl ?_ | refine Cont.go rfl ?_ | refine OrdP.go ?_)
        exact ⟨_, [], FinOk.drop _ _, no (fun hc => hb (by have := hc.2.2.2.2.1; rw [hn', (rfl : namesOf pl = namesOf pl)] at this; exact this)), rfl⟩
      have c1 := begins_spec ([] : List ByteArray) (namesOf pl) (by simp) (by omega)
      rw [decide_eq_true hb] at c1
      refine ACall.ret_lend (.two (.nils 1) (.row 0 g _ (namesOf pl).length 9 1 ((namesOf pl).map .str) rfl (by rw [List.length_map]; exact Nat.le_refl _))) c1 rfl ?_
      repeat (first | refine Ops.go ?_ | refine And.intro rfl ?_ | refine And.intro (Nat.le_of_ble_eq_true rfl) ?_ | refine And.intro (Int.natCast_nonneg _) ?_ | refine fun (_ : Nat) => ?_ | refine Ord.go ?_ | refine Run.go rfl ?_ | refine Cont.go rfl ?_ | refine OrdP.go ?_)
      refine ⟨fun hd => ?_, fun hd => ?_⟩
      · have hd : kd = 1 := hd
        repeat (first | refine Ops.go ?_ | refine And.intro rfl ?_ | refine And.intro (Nat.le_of_ble_eq_true rfl) ?_ | refine And.intro (Int.natCast_nonneg _) ?_ | refine fun (_ : Nat) => ?_ | refine Ord.go ?_ | refine Run.go rfl ?_ | refine Cont.go rfl ?_ | refine OrdP.go ?_)
        refine ⟨fun hl => ?_, fun hl => ?_⟩
        · have hl : (0 : Int) = ((namesOf pl).length : Int) := hl
          repeat (first | refine Ops.go ?_ | refine And.intro rfl ?_ | refine And.intro (Nat.le_of_ble_eq_true rfl) ?_ | refine And.intro (Int.natCast_nonneg _) ?_ | refine fun (_ : Nat) => ?_ | refine Ord.go ?_ | refine Run.go rfl ?_ | refine Cont.go rfl ?_ | refine OrdP.go ?_)
          exact ⟨_, [], FinOk.drop _ _, yes (⟨h, h', by omega, by omega, by rw [hn', (rfl : namesOf pl = namesOf pl)]; exact hb, .inl ⟨hd, by rw [hn', (rfl : namesOf pl = namesOf pl)] <;> first | omega | (simp only [List.length_nil]; omega)⟩⟩), rfl⟩
        · have hl : ¬ (0 : Int) = ((namesOf pl).length : Int) := hl
          repeat (first | refine Ops.go ?_ | refine And.intro rfl ?_ | refine And.intro (Nat.le_of_ble_eq_true rfl) ?_ | refine And.intro (Int.natCast_nonneg _) ?_ | refine fun (_ : Nat) => ?_ | refine Ord.go ?_ | refine Run.go rfl ?_ | refine Cont.go rfl ?_ | refine OrdP.go ?_)
          exact ⟨_, [], FinOk.drop _ _, no (fun hc => by rcases hc.2.2.2.2.2 with h | h | h; have := h.2; rw [hn', (rfl : namesOf pl = namesOf pl)] at this; (first | omega | (simp only [List.length_nil] at this; omega)); have := h.1; omega; omega), rfl⟩
      have hd1 : ¬ kd = 1 := hd
      repeat (first | refine Ops.go ?_ | refine And.intro rfl ?_ | refine And.intro (Nat.le_of_ble_eq_true rfl) ?_ | refine And.intro (Int.natCast_nonneg _) ?_ | refine fun (_ : Nat) => ?_ | refine Ord.go ?_ | refine Run.go rfl ?_ | refine Cont.go rfl ?_ | refine OrdP.go ?_)
      refine ⟨fun hd => ?_, fun hd => ?_⟩
      · have hd : kd = 2 := hd
        repeat (first | refine Ops.go ?_ | refine And.intro rfl ?_ | refine And.intro (Nat.le_of_ble_eq_true rfl) ?_ | refine And.intro (Int.natCast_nonneg _) ?_ | refine fun (_ : Nat) => ?_ | refine Ord.go ?_ | refine Run.go rfl ?_ | refine Cont.go rfl ?_ | refine OrdP.go ?_)
        refine ⟨fun hs => ?_, fun hs => ?_⟩
        · have hs : k ≠ 2 := hs
          repeat (first | refine Ops.go ?_ | refine And.intro rfl ?_ | refine And.intro (Nat.le_of_ble_eq_true rfl) ?_ | refine And.intro (Int.natCast_nonneg _) ?_ | refine fun (_ : Nat) => ?_ | refine Ord.go ?_ | refine Run.go rfl ?_ | refine Cont.go rfl ?_ | refine OrdP.go ?_)
          refine fun r hr => ?_
          obtain rfl : r = (((namesOf pl).length + 1 : Nat) : Int) := by rw [hr, IntKind.wrap_i64]; omega
          repeat (first | refine Ops.go ?_ | refine And.intro rfl ?_ | refine And.intro (Nat.le_of_ble_eq_true rfl) ?_ | refine And.intro (Int.natCast_nonneg _) ?_ | refine fun (_ : Nat) => ?_ | refine Ord.go ?_ | refine Run.go rfl ?_ | refine Cont.go rfl ?_ | refine OrdP.go ?_)
          refine ⟨fun hl => ?_, fun hl => ?_⟩
          · have hl : (0 : Int) ≤ (((namesOf pl).length + 1 : Nat) : Int) := hl
            repeat (first | refine Ops.go ?_ | refine And.intro rfl ?_ | refine And.intro (Nat.le_of_ble_eq_true rfl) ?_ | refine And.intro (Int.natCast_nonneg _) ?_ | refine fun (_ : Nat) => ?_ | refine Ord.go ?_ | refine Run.go rfl ?_ | refine Cont.go rfl ?_ | refine OrdP.go ?_)
            exact ⟨_, [], FinOk.drop _ _, yes (⟨h, h', by omega, by omega, by rw [hn', (rfl : namesOf pl = namesOf pl)]; exact hb, .inr (.inl ⟨hd, hs, by rw [hn', (rfl : namesOf pl = namesOf pl)] <;> first | omega | (simp only [List.length_nil]; omega)⟩)⟩), rfl⟩
          · have hl : ¬ (0 : Int) ≤ (((namesOf pl).length + 1 : Nat) : Int) := hl
            repeat (first | refine Ops.go ?_ | refine And.intro rfl ?_ | refine And.intro (Nat.le_of_ble_eq_true rfl) ?_ | refine And.intro (Int.natCast_nonneg _) ?_ | refine fun (_ : Nat) => ?_ | refine Ord.go ?_ | refine Run.go rfl ?_ | refine Cont.go rfl ?_ | refine OrdP.go ?_)
            exact ⟨_, [], FinOk.drop _ _, no (fun hc => by rcases hc.2.2.2.2.2 with h | h | h; have := h.1; omega; have := h.2.2; rw [hn', (rfl : namesOf pl = namesOf pl)] at this; (first | omega | (simp only [List.length_nil] at this; omega)); omega), rfl⟩
        · have hs : k = 2 := Classical.not_not.1 hs
          repeat (first | refine Ops.go ?_ | refine And.intro rfl ?_ | refine And.intro (Nat.le_of_ble_eq_true rfl) ?_ | refine And.intro (Int.natCast_nonneg _) ?_ | refine fun (_ : Nat) => ?_ | refine Ord.go ?_ | refine Run.go rfl ?_ | refine Cont.go rfl ?_ | refine OrdP.go ?_)
          exact ⟨_, [], FinOk.drop _ _, no (fun hc => by rcases hc.2.2.2.2.2 with h | h | h; have := h.1; omega; exact h.2.1 hs; omega), rfl⟩
      have hd2 : ¬ kd = 2 := hd
      repeat (first | refine Ops.go ?_ | refine And.intro rfl ?_ | refine And.intro (Nat.le_of_ble_eq_true rfl) ?_ | refine And.intro (Int.natCast_nonneg _) ?_ | refine fun (_ : Nat) => ?_ | refine Ord.go ?_ | refine Run.go rfl ?_ | refine Cont.go rfl ?_ | refine OrdP.go ?_)
      refine ⟨fun hd => ?_, fun hd => ?_⟩
      · have hd : kd = 3 := hd
        repeat (first | refine Ops.go ?_ | refine And.intro rfl ?_ | refine And.intro (Nat.le_of_ble_eq_true rfl) ?_ | refine And.intro (Int.natCast_nonneg _) ?_ | refine fun (_ : Nat) => ?_ | refine Ord.go ?_ | refine Run.go rfl ?_ | refine Cont.go rfl ?_ | refine OrdP.go ?_)
        exact ⟨_, [], FinOk.drop _ _, yes (⟨h, h', by omega, by omega, by rw [hn', (rfl : namesOf pl = namesOf pl)]; exact hb, .inr (.inr hd)⟩), rfl⟩
      · have hd : ¬ kd = 3 := hd
        repeat (first | refine Ops.go ?_ | refine And.intro rfl ?_ | refine And.intro (Nat.le_of_ble_eq_true rfl) ?_ | refine And.intro (Int.natCast_nonneg _) ?_ | refine fun (_ : Nat) => ?_ | refine Ord.go ?_ | refine Run.go rfl ?_ | refine Cont.go rfl ?_ | refine OrdP.go ?_)
        exact ⟨_, [], FinOk.drop _ _, no (fun hc => by rcases hc.2.2.2.2.2 with h | h | h; have := h.1; omega; have := h.1; omega; omega), rfl⟩
    · refine ⟨.tuple [.sl 1 g' _ _, .int .i64 0], Sub.tuples ⟨Sub.sl _ 1 _ _ _, Sub.refl _, trivial⟩, ?_⟩
      repeat (first | refine Ops.go ?_ | refine And.intro rfl ?_ | refine And.intro (Nat.le_of_ble_eq_true rfl) ?_ | refine And.intro (Int.natCast_nonneg _) ?_ | refine fun (_ : Nat) => ?_ | refine Ord.go ?_ | refine Run.go rfl ?_ | refine Cont.go rfl ?_ | refine OrdP.go ?_)
      refine ⟨fun e => absurd rfl e, fun _ => ?_⟩
      repeat (first | refine Ops.go ?_ | refine And.intro rfl ?_ | refine And.intro (Nat.le_of_ble_eq_true rfl) ?_ | refine And.intro (Int.natCast_nonneg _) ?_ | refine fun (_ : Nat) => ?_ | refine Ord.go ?_ | refine Run.go rfl ?_ | refine Cont.go rfl ?_ | refine OrdP.go ?_)
      refine ⟨fun e => absurd rfl e, fun _ => ?_⟩
      repeat (first | refine Ops.go ?_ | refine And.intro rfl ?_ | refine And.intro (Nat.le_of_ble_eq_true rfl) ?_ | refine And.intro (Int.natCast_nonneg _) ?_ | refine fun (_ : Nat) => ?_ | refine Ord.go ?_ | refine Run.go rfl ?_ | refine Cont.go rfl ?_ | refine OrdP.go ?_)
      refine ⟨fun hk => ?_, fun hk => ?_⟩
      · have hk : k < 1 := hk
        repeat (first | refine Ops.go ?_ | refine And.intro rfl ?_ | refine And.intro (Nat.le_of_ble_eq_true rfl) ?_ | refine And.intro (Int.natCast_nonneg _) ?_ | refine fun (_ : Nat) => ?_ | refine Ord.go ?_ | refine Run.go rfl ?_ | refine Cont.go rfl ?_ | refine OrdP.go ?_)
        exact ⟨_, [], FinOk.drop _ _, no (fun hc => by have := hc.2.2.1; omega), rfl⟩
      have hk1 : ¬ k < 1 := hk
      repeat (first | refine Ops.go ?_ | refine And.intro rfl ?_ | refine And.intro (Nat.le_of_ble_eq_true rfl) ?_ | refine And.intro (Int.natCast_nonneg _) ?_ | refine fun (_ : Nat) => ?_ | refine Ord.go ?_ | refine Run.go rfl ?_ | refine Cont.go rfl ?_ | refine OrdP.go ?_)
      refine ⟨fun hk => ?_, fun hk => ?_⟩
      · have hk : (3 : Int) < k := hk
        repeat (first | refine Ops.go ?_ | refine And.intro rfl ?_ | refine And.intro (Nat.le_of_ble_eq_true rfl) ?_ | refine And.intro (Int.natCast_nonneg _) ?_ | refine fun (_ : Nat) => ?_ | refine Ord.go ?_ | refine Run.go rfl ?_ | refine Cont.go rfl ?_ | refine OrdP.go ?_)
        exact ⟨_, [], FinOk.drop _ _, no (fun hc => by have := hc.2.2.2.1; omega), rfl⟩
      have hk3 : ¬ (3 : Int) < k := hk
      repeat (first | refine Ops.go ?_ | refine And.intro rfl ?_ | refine And.intro (Nat.le_of_ble_eq_true rfl) ?_ | refine And.intro (Int.natCast_nonneg _) ?_ | refine fun (_ : Nat) => ?_ | refine Ord.go ?_ | refine Run.go rfl ?_ | refine Cont.go rfl ?_ | refine OrdP.go ?_)
      by_cases hb : beginsP (namesOf p) (namesOf pl)
      case neg =>
        have c1 := begins_spec (namesOf p) (namesOf pl) (by omega) (by omega)
        rw [decide_eq_false hb] at c1
        refine ACall.ret_lend (.two (.row 1 g' _ (namesOf p).length 9 1 ((namesOf p).map .str) rfl (by rw [List.length_map]; exact Nat.le_refl _)) (.row 0 g _ (namesOf pl).length 9 1 ((namesOf pl).map .str) rfl (by rw [List.length_map]; exact Nat.le_refl _))) c1 rfl ?_
        repeat (first | refine Ops.go ?_ | refine And.intro rfl ?_ | refine And.intro (Nat.le_of_ble_eq_true rfl) ?_ | refine And.intro (Int.natCast_nonneg _) ?_ | refine fun (_ : Nat) => ?_ | refine Ord.go ?_ | refine Run.go rfl ?_ | refine Cont.go rfl ?_ | refine OrdP.go ?_)
        exact ⟨_, [], FinOk.drop _ _, no (fun hc => hb (by have := hc.2.2.2.2.1; rw [(rfl : namesOf p = namesOf p), (rfl : namesOf pl = namesOf pl)] at this; exact this)), rfl⟩
      have c1 := begins_spec (namesOf p) (namesOf pl) (by omega) (by omega)
      rw [decide_eq_true hb] at c1
      refine ACall.ret_lend (.two (.row 1 g' _ (namesOf p).length 9 1 ((namesOf p).map .str) rfl (by rw [List.length_map]; exact Nat.le_refl _)) (.row 0 g _ (namesOf pl).length 9 1 ((namesOf pl).map .str) rfl (by rw [List.length_map]; exact Nat.le_refl _))) c1 rfl ?_
      repeat (first | refine Ops.go ?_ | refine And.intro rfl ?_ | refine And.intro (Nat.le_of_ble_eq_true rfl) ?_ | refine And.intro (Int.natCast_nonneg _) ?_ | refine fun (_ : Nat) => ?_ | refine Ord.go ?_ | refine Run.go rfl ?_ | refine Cont.go rfl ?_ | refine OrdP.go ?_)
      refine ⟨fun hd => ?_, fun hd => ?_⟩
      · have hd : kd = 1 := hd
        repeat (first | refine Ops.go ?_ | refine And.intro rfl ?_ | refine And.intro (Nat.le_of_ble_eq_true rfl) ?_ | refine And.intro (Int.natCast_nonneg _) ?_ | refine fun (_ : Nat) => ?_ | refine Ord.go ?_ | refine Run.go rfl ?_ | refine Cont.go rfl ?_ | refine OrdP.go ?_)
        refine ⟨fun hl => ?_, fun hl => ?_⟩
        · have hl : ((namesOf p).length : Int) = ((namesOf pl).length : Int) := hl
          repeat (first | refine Ops.go ?_ | refine And.intro rfl ?_ | refine And.intro (Nat.le_of_ble_eq_true rfl) ?_ | refine And.intro (Int.natCast_nonneg _) ?_ | refine fun (_ : Nat) => ?_ | refine Ord.go ?_ | refine Run.go rfl ?_ | refine Cont.go rfl ?_ | refine OrdP.go ?_)
          exact ⟨_, [], FinOk.drop _ _, yes (⟨h, h', by omega, by omega, by rw [(rfl : namesOf p = namesOf p), (rfl : namesOf pl = namesOf pl)]; exact hb, .inl ⟨hd, by rw [(rfl : namesOf p = namesOf p), (rfl : namesOf pl = namesOf pl)] <;> first | omega | (simp only [List.length_nil]; omega)⟩⟩), rfl⟩
        · have hl : ¬ ((namesOf p).length : Int) = ((namesOf pl).length : Int) := hl
          repeat (first | refine Ops.go ?_ | refine And.intro rfl ?_ | refine And.intro (Nat.le_of_ble_eq_true rfl) ?_ | refine And.intro (Int.natCast_nonneg _) ?_ | refine fun (_ : Nat) => ?_ | refine Ord.go ?_ | refine Run.go rfl ?_ | refine Cont.go rfl ?_ | refine OrdP.go ?_)
          exact ⟨_, [], FinOk.drop _ _, no (fun hc => by rcases hc.2.2.2.2.2 with h | h | h; have := h.2; rw [(rfl : namesOf p = namesOf p), (rfl : namesOf pl = namesOf pl)] at this; (first | omega | (simp only [List.length_nil] at this; omega)); have := h.1; omega; omega), rfl⟩
      have hd1 : ¬ kd = 1 := hd
      repeat (first | refine Ops.go ?_ | refine And.intro rfl ?_ | refine And.intro (Nat.le_of_ble_eq_true rfl) ?_ | refine And.intro (Int.natCast_nonneg _) ?_ | refine fun (_ : Nat) => ?_ | refine Ord.go ?_ | refine Run.go rfl ?_ | refine Cont.go rfl ?_ | refine OrdP.go ?_)
      refine ⟨fun hd => ?_, fun hd => ?_⟩
      · have hd : kd = 2 := hd
        repeat (first | refine Ops.go ?_ | refine And.intro rfl ?_ | refine And.intro (Nat.le_of_ble_eq_true rfl) ?_ | refine And.intro (Int.natCast_nonneg _) ?_ | refine fun (_ : Nat) => ?_ | refine Ord.go ?_ | refine Run.go rfl ?_ | refine Cont.go rfl ?_ | refine OrdP.go ?_)
        refine ⟨fun hs => ?_, fun hs => ?_⟩
        · have hs : k ≠ 2 := hs
          repeat (first | refine Ops.go ?_ | refine And.intro rfl ?_ | refine And.intro (Nat.le_of_ble_eq_true rfl) ?_ | refine And.intro (Int.natCast_nonneg _) ?_ | refine fun (_ : Nat) => ?_ | refine Ord.go ?_ | refine Run.go rfl ?_ | refine Cont.go rfl ?_ | refine OrdP.go ?_)
          refine fun r hr => ?_
          obtain rfl : r = (((namesOf pl).length + 1 : Nat) : Int) := by rw [hr, IntKind.wrap_i64]; omega
          repeat (first | refine Ops.go ?_ | refine And.intro rfl ?_ | refine And.intro (Nat.le_of_ble_eq_true rfl) ?_ | refine And.intro (Int.natCast_nonneg _) ?_ | refine fun (_ : Nat) => ?_ | refine Ord.go ?_ | refine Run.go rfl ?_ | refine Cont.go rfl ?_ | refine OrdP.go ?_)
          refine ⟨fun hl => ?_, fun hl => ?_⟩
          · have hl : ((namesOf p).length : Int) ≤ (((namesOf pl).length + 1 : Nat) : Int) := hl
            repeat (first | refine Ops.go ?_ | refine And.intro rfl ?_ | refine And.intro (Nat.le_of_ble_eq_true rfl) ?_ | refine And.intro (Int.natCast_nonneg _) ?_ | refine fun (_ : Nat) => ?_ | refine Ord.go ?_ | refine Run.go rfl ?_ | refine Cont.go rfl ?_ | refine OrdP.go ?_)
            exact ⟨_, [], FinOk.drop _ _, yes (⟨h, h', by omega, by omega, by rw [(rfl : namesOf p = namesOf p), (rfl : namesOf pl = namesOf pl)]; exact hb, .inr (.inl ⟨hd, hs, by rw [(rfl : namesOf p = namesOf p), (rfl : namesOf pl = namesOf pl)] <;> first | omega | (simp only [List.length_nil]; omega)⟩)⟩), rfl⟩
          · have hl : ¬ ((namesOf p).length : Int) ≤ (((namesOf pl).length + 1 : Nat) : Int) := hl
            repeat (first | refine Ops.go ?_ | refine And.intro rfl ?_ | refine And.intro (Nat.le_of_ble_eq_true rfl) ?_ | refine And.intro (Int.natCast_nonneg _) ?_ | refine fun (_ : Nat) => ?_ | refine Ord.go ?_ | refine Run.go rfl ?_ | refine Cont.go rfl ?_ | refine OrdP.go ?_)
            exact ⟨_, [], FinOk.drop _ _, no (fun hc => by rcases hc.2.2.2.2.2 with h | h | h; have := h.1; omega; have := h.2.2; rw [(rfl : namesOf p = namesOf p), (rfl : namesOf pl = namesOf pl)] at this; (first | omega | (simp only [List.length_nil] at this; omega)); omega), rfl⟩
        · have hs : k = 2 := Classical.not_not.1 hs
          repeat (first | refine Ops.go ?_ | refine And.intro rfl ?_ | refine And.intro (Nat.le_of_ble_eq_true rfl) ?_ | refine And.intro (Int.natCast_nonneg _) ?_ | refine fun (_ : Nat) => ?_ | refine Ord.go ?_ | refine Run.go rfl ?_ | refine Cont.go rfl ?_ | refine OrdP.go ?_)
          exact ⟨_, [], FinOk.drop _ _, no (fun hc => by rcases hc.2.2.2.2.2 with h | h | h; have := h.1; omega; exact h.2.1 hs; omega), rfl⟩
      have hd2 : ¬ kd = 2 := hd
      repeat (first | refine Ops.go ?_ | refine And.intro rfl ?_ | refine And.intro (Nat.le_of_ble_eq_true rfl) ?_ | refine And.intro (Int.natCast_nonneg _) ?_ | refine fun (_ : Nat) => ?_ | refine Ord.go ?_ | refine Run.go rfl ?_ | refine Cont.go rfl ?_ | refine OrdP.go ?_)
      refine ⟨fun hd => ?_, fun hd => ?_⟩
      · have hd : kd = 3 := hd
        repeat (first | refine Ops.go ?_ | refine And.intro rfl ?_ | refine And.intro (Nat.le_of_ble_eq_true rfl) ?_ | refine And.intro (Int.natCast_nonneg _) ?_ | refine fun (_ : Nat) => ?_ | refine Ord.go ?_ | refine Run.go rfl ?_ | refine Cont.go rfl ?_ | refine OrdP.go ?_)
        exact ⟨_, [], FinOk.drop _ _, yes (⟨h, h', by omega, by omega, by rw [(rfl : namesOf p = namesOf p), (rfl : namesOf pl = namesOf pl)]; exact hb, .inr (.inr hd)⟩), rfl⟩
      · have hd : ¬ kd = 3 := hd
        repeat (first | refine Ops.go ?_ | refine And.intro rfl ?_ | refine And.intro (Nat.le_of_ble_eq_true rfl) ?_ | refine And.intro (Int.natCast_nonneg _) ?_ | refine fun (_ : Nat) => ?_ | refine Ord.go ?_ | refine Run.go rfl ?_ | refine Cont.go rfl ?_ | refine OrdP.go ?_)
        exact ⟨_, [], FinOk.drop _ _, no (fun hc => by rcases hc.2.2.2.2.2 with h | h | h; have := h.1; omega; have := h.1; omega; omega), rfl⟩

end Go.Proofs.YtfohedaadncefaaDoor.HBT
/- The contract of the document's own search of a place. -/
namespace Go.Proofs.YtfohedaadncefaaDoor.HBT
open Go Go.Proofs.YtfohedaadncefaaDoor.HB Go.RowKit
set_option maxRecDepth 8000

theorem find_spec (xs : List Sn) (n : Nat) (hn : n ≤ xs.length) (hm : n ≤ 1000) (p : ByteArray) : FnSpec C 58 [rdo xs n, .str p] [] (fun r L' => (∃ z : Int, r = .int .i64 z ∧ (z < 0 ↔ ¬ ∃ k x, k < n ∧ xs[k]? = some x ∧ x.p = p)) ∧ L' = []) := by
  refine FnSpec.start C_ok Tryd.func58 rfl rfl Tryd.ntmps58 ?_
  repeat (first | refine Ops.go ?_ | refine And.intro rfl ?_ | refine And.intro (Nat.le_of_ble_eq_true rfl) ?_ | refine And.intro (Int.natCast_nonneg _) ?_ | refine fun (_ : Nat) => ?_ | refine Ord.go ?_ | refine Run.go rfl ?_ | refine Cont.go rfl ?_ | refine OrdP.go ?_)
  refine Run.loop (fun k env L => ∃ i : Nat, k = n - i ∧ i ≤ n ∧ (∀ (j : Nat) (x : Sn), j < i → xs[j]? = some x → x.p ≠ p) ∧ env = [rdo xs n, .str p, .junk, .junk, .junk, .int .i64 i, .junk, .junk, .junk, .junk, .junk, .junk, .junk, .junk, .junk, .junk, .junk, .junk, .junk, .junk] ∧ L = []) n
    [rdo xs n, .str p, .junk, .junk, .junk, .int .i64 0, .junk, .junk, .junk, .junk, .junk, .junk, .junk, .junk, .junk, .junk, .junk, .junk, .junk, .junk] ?_ ⟨0, by omega, by omega, (fun j _ hj => absurd hj (Nat.not_lt_zero j)), rfl, rfl⟩ ?_
  · repeat (first | exact trivial | refine ⟨.inl rfl, ?_⟩ | refine ⟨.inr rfl, ?_⟩)
  rintro k env L ⟨i, rfl, hi, hP, rfl, rfl⟩
  repeat (first | refine Ops.go ?_ | refine And.intro rfl ?_ | refine And.intro (Nat.le_of_ble_eq_true rfl) ?_ | refine And.intro (Int.natCast_nonneg _) ?_ | refine fun (_ : Nat) => ?_ | refine Ord.go ?_ | refine Run.go rfl ?_ | refine Cont.go rfl ?_ | refine OrdP.go ?_)
  refine ⟨fun h => ?_, fun h => ?_⟩
  · have h : (i : Int) < (n : Int) := h
    obtain ⟨x, ex⟩ : ∃ x, xs[i]? = some x := ⟨xs[i], List.getElem?_eq_getElem (by omega)⟩
    repeat (first | refine Ops.go ?_ | refine And.intro rfl ?_ | refine And.intro (Nat.le_of_ble_eq_true rfl) ?_ | refine And.intro (Int.natCast_nonneg _) ?_ | refine fun (_ : Nat) => ?_ | refine Ord.go ?_ | refine Run.go rfl ?_ | refine Cont.go rfl ?_ | refine OrdP.go ?_)
    refine ⟨h, enc x, enc_at _ _ _ ex, ?_⟩
    repeat (first | refine Ops.go ?_ | refine And.intro rfl ?_ | refine And.intro (Nat.le_of_ble_eq_true rfl) ?_ | refine And.intro (Int.natCast_nonneg _) ?_ | refine fun (_ : Nat) => ?_ | refine Ord.go ?_ | refine Run.go rfl ?_ | refine Cont.go rfl ?_ | refine OrdP.go ?_)
    refine ⟨fun he => ?_, fun he => ?_⟩
    · have he : x.p = p := he
      repeat (first | refine Ops.go ?_ | refine And.intro rfl ?_ | refine And.intro (Nat.le_of_ble_eq_true rfl) ?_ | refine And.intro (Int.natCast_nonneg _) ?_ | refine fun (_ : Nat) => ?_ | refine Ord.go ?_ | refine Run.go rfl ?_ | refine Cont.go rfl ?_ | refine OrdP.go ?_)
      exact ⟨_, [], FinOk.drop _ _, ⟨(i : Int), rfl, by
        constructor
        · intro hlt; omega
        · intro hno; exact absurd ⟨i, x, by omega, ex, he⟩ hno⟩, rfl⟩
    · have he : ¬ x.p = p := he
      repeat (first | refine Ops.go ?_ | refine And.intro rfl ?_ | refine And.intro (Nat.le_of_ble_eq_true rfl) ?_ | refine And.intro (Int.natCast_nonneg _) ?_ | refine fun (_ : Nat) => ?_ | refine Ord.go ?_ | refine Run.go rfl ?_ | refine Cont.go rfl ?_ | refine OrdP.go ?_)
      refine fun r hr => ?_
      obtain rfl := add1 hr (by omega)
      repeat (first | refine Ops.go ?_ | refine And.intro rfl ?_ | refine And.intro (Nat.le_of_ble_eq_true rfl) ?_ | refine And.intro (Int.natCast_nonneg _) ?_ | refine fun (_ : Nat) => ?_ | refine Ord.go ?_ | refine Run.go rfl ?_ | refine Cont.go rfl ?_ | refine OrdP.go ?_)
      refine Cont.lp ?_
      refine ⟨n - (i + 1), [rdo xs n, .str p, .junk, .junk, .junk, .int .i64 (i + 1 : Nat), .junk, .junk, .junk, .junk, .junk, .junk, .junk, .junk, .junk, .junk, .junk, .junk, .junk, .junk], 99, by omega, ?_, ⟨i + 1, rfl, by omega, ?_, rfl, rfl⟩⟩
      · repeat (first | exact trivial | refine ⟨.inl rfl, ?_⟩ | refine ⟨.inr rfl, ?_⟩)
      · intro j y hj ey
        by_cases e : j = i
        · subst e; rw [ex] at ey; cases ey; exact he
        · exact hP j y (by omega) ey
  · have h : ¬ (i : Int) < (n : Int) := h
    repeat (first | refine Ops.go ?_ | refine And.intro rfl ?_ | refine And.intro (Nat.le_of_ble_eq_true rfl) ?_ | refine And.intro (Int.natCast_nonneg _) ?_ | refine fun (_ : Nat) => ?_ | refine Ord.go ?_ | refine Run.go rfl ?_ | refine Cont.go rfl ?_ | refine OrdP.go ?_)
    exact ⟨_, [], FinOk.drop _ _, ⟨(-1 : Int), rfl, by
      constructor
      · rintro _ ⟨k, x, h1, h2, h3⟩
        exact hP k x (by omega) h2 h3
      · intro _; decide⟩, rfl⟩

end Go.Proofs.YtfohedaadncefaaDoor.HBT
/- The contract of the document's own text 'in'. -/
namespace Go.Proofs.YtfohedaadncefaaDoor.HBT
open Go Go.Proofs.YtfohedaadncefaaDoor.HB Go.RowKit
set_option maxRecDepth 8000

def inP (kd : Int) (of_ p : ByteArray) : Prop := p = of_ ∨ (kd = 2 ∧ parentB p = of_) ∨ (kd ≠ 2 ∧ kd = 3 ∧ belowR p of_)
noncomputable instance (kd : Int) (of_ p : ByteArray) : Decidable (inP kd of_ p) := Classical.propDecidable _

theorem in_spec (kd : Int) (of_ p : ByteArray) : FnSpec C 55 [.int .i64 kd, .str of_, .str p] [] (fun r L' => r = .bool (decide (inP kd of_ p)) ∧ L' = []) := by
  have no : ¬ inP kd of_ p → false = decide (inP kd of_ p) := fun h => (decide_eq_false h).symm
  have yes : inP kd of_ p → true = decide (inP kd of_ p) := fun h => (decide_eq_true h).symm
  refine FnSpec.start C_ok Tryd.func55 rfl rfl Tryd.ntmps55 ?_
  repeat (first | refine Ops.go ?_ | refine And.intro rfl ?_ | refine And.intro (Nat.le_of_ble_eq_true rfl) ?_ | refine And.intro (Int.natCast_nonneg _) ?_ | refine fun (_ : Nat) => ?_ | refine Ord.go ?_ | refine Run.go rfl ?_ | refine Cont.go rfl ?_ | refine OrdP.go ?_)
  refine ⟨fun h => ?_, fun h => ?_⟩
  · have h : p = of_ := h
    repeat (first | refine Ops.go ?_ | refine And.intro rfl ?_ | refine And.intro (Nat.le_of_ble_eq_true rfl) ?_ | refine And.intro (Int.natCast_nonneg _) ?_ | refine fun (_ : Nat) => ?_ | refine Ord.go ?_ | refine Run.go rfl ?_ | refine Cont.go rfl ?_ | refine OrdP.go ?_)
    exact ⟨_, [], FinOk.drop _ _, congrArg AV.bool (yes (.inl h)), rfl⟩
  have h1 : ¬ p = of_ := h
  repeat (first | refine Ops.go ?_ | refine And.intro rfl ?_ | refine And.intro (Nat.le_of_ble_eq_true rfl) ?_ | refine And.intro (Int.natCast_nonneg _) ?_ | refine fun (_ : Nat) => ?_ | refine Ord.go ?_ | refine Run.go rfl ?_ | refine Cont.go rfl ?_ | refine OrdP.go ?_)
  refine ⟨fun h => ?_, fun h => ?_⟩
  · have h : kd = 2 := h
    repeat (first | refine Ops.go ?_ | refine And.intro rfl ?_ | refine And.intro (Nat.le_of_ble_eq_true rfl) ?_ | refine And.intro (Int.natCast_nonneg _) ?_ | refine fun (_ : Nat) => ?_ | refine Ord.go ?_ | refine Run.go rfl ?_ | refine Cont.go rfl ?_ | refine OrdP.go ?_)
    refine ACall.ret (above_spec p) ?_
    repeat (first | refine Ops.go ?_ | refine And.intro rfl ?_ | refine And.intro (Nat.le_of_ble_eq_true rfl) ?_ | refine And.intro (Int.natCast_nonneg _) ?_ | refine fun (_ : Nat) => ?_ | refine Ord.go ?_ | refine Run.go rfl ?_ | refine Cont.go rfl ?_ | refine OrdP.go ?_)
    refine ⟨fun h2 => ?_, fun h2 => ?_⟩
    · repeat (first | refine Ops.go ?_ | refine And.intro rfl ?_ | refine And.intro (Nat.le_of_ble_eq_true rfl) ?_ | refine And.intro (Int.natCast_nonneg _) ?_ | refine fun (_ : Nat) => ?_ | refine Ord.go ?_ | refine Run.go rfl ?_ | refine Cont.go rfl ?_ | refine OrdP.go ?_)
      exact ⟨_, [], FinOk.drop _ _, congrArg AV.bool (yes (.inr (.inl ⟨h, h2⟩))), rfl⟩
    · repeat (first | refine Ops.go ?_ | refine And.intro rfl ?_ | refine And.intro (Nat.le_of_ble_eq_true rfl) ?_ | refine And.intro (Int.natCast_nonneg _) ?_ | refine fun (_ : Nat) => ?_ | refine Ord.go ?_ | refine Run.go rfl ?_ | refine Cont.go rfl ?_ | refine OrdP.go ?_)
      exact ⟨_, [], FinOk.drop _ _, congrArg AV.bool (no (by
        rintro (h3 | ⟨_, h3⟩ | ⟨h3, _⟩)
        · exact h1 h3
        · exact h2 h3
        · exact h3 h)), rfl⟩
  have h2 : ¬ kd = 2 := h
  repeat (first | refine Ops.go ?_ | refine And.intro rfl ?_ | refine And.intro (Nat.le_of_ble_eq_true rfl) ?_ | refine And.intro (Int.natCast_nonneg _) ?_ | refine fun (_ : Nat) => ?_ | refine Ord.go ?_ | refine Run.go rfl ?_ | refine Cont.go rfl ?_ | refine OrdP.go ?_)
  refine ⟨fun h => ?_, fun h => ?_⟩
  · have h : kd = 3 := h
    repeat (first | refine Ops.go ?_ | refine And.intro rfl ?_ | refine And.intro (Nat.le_of_ble_eq_true rfl) ?_ | refine And.intro (Int.natCast_nonneg _) ?_ | refine fun (_ : Nat) => ?_ | refine Ord.go ?_ | refine Run.go rfl ?_ | refine Cont.go rfl ?_ | refine OrdP.go ?_)
    refine ACall.ret (refBelow_spec p of_) ?_
    repeat (first | refine Ops.go ?_ | refine And.intro rfl ?_ | refine And.intro (Nat.le_of_ble_eq_true rfl) ?_ | refine And.intro (Int.natCast_nonneg _) ?_ | refine fun (_ : Nat) => ?_ | refine Ord.go ?_ | refine Run.go rfl ?_ | refine Cont.go rfl ?_ | refine OrdP.go ?_)
    exact ⟨_, [], FinOk.drop _ _, congrArg AV.bool (show decide (belowR p of_) = _ by
      rw [Bool.eq_iff_iff, decide_eq_true_iff, decide_eq_true_iff]
      constructor
      · intro h3; exact .inr (.inr ⟨h2, h, h3⟩)
      · rintro (h3 | ⟨h3, _⟩ | ⟨_, _, h3⟩)
        · exact absurd h3 h1
        · exact absurd h3 h2
        · exact h3), rfl⟩
  · have h : ¬ kd = 3 := h
    repeat (first | refine Ops.go ?_ | refine And.intro rfl ?_ | refine And.intro (Nat.le_of_ble_eq_true rfl) ?_ | refine And.intro (Int.natCast_nonneg _) ?_ | refine fun (_ : Nat) => ?_ | refine Ord.go ?_ | refine Run.go rfl ?_ | refine Cont.go rfl ?_ | refine OrdP.go ?_)
    exact ⟨_, [], FinOk.drop _ _, congrArg AV.bool (no (by
      rintro (h3 | ⟨h3, _⟩ | ⟨_, h3, _⟩)
      · exact h1 h3
      · exact h2 h3
      · exact h h3)), rfl⟩

end Go.Proofs.YtfohedaadncefaaDoor.HBT
/- The contract of the document's own text 'Check'. -/
namespace Go.Proofs.YtfohedaadncefaaDoor.HBT
open Go Go.Proofs.YtfohedaadncefaaDoor.HB Go.RowKit
set_option maxRecDepth 8000

def refNode (pl : ByteArray) (kd : Int) (xs : List Sn) (n i : Nat) (x : Sn) : Prop :=
  parseE x.p = 0 ∧ inP kd pl x.p ∧ (x.d.size ≤ 64 ∧ 0 ≤ x.v ∧ x.v ≤ 2147483647) ∧ (i ≠ 0 → ∃ y, xs[i - 1]? = some y ∧ orderB y.p x.p < 0) ∧ (kd = 2 → bare x) ∧ (x.p ≠ pl → ∃ k z, k < n ∧ xs[k]? = some z ∧ z.p = parentB x.p)
/-- May the shot be, as the document says? -/
def refP (st : Int) (pl : ByteArray) (kd : Int) (xs : List Sn) (n : Nat) : Prop :=
  (0 ≤ st ∧ st ≤ 2147483647) ∧ parseE pl = 0 ∧ (kd = 1 ∨ kd = 2 ∨ kd = 3) ∧ n ≤ 64 ∧ ¬ (n = 0 ∧ pl = slash) ∧ ∀ (i : Nat) (x : Sn), i < n → xs[i]? = some x → refNode pl kd xs n i x
noncomputable instance (st : Int) (pl : ByteArray) (kd : Int) (xs : List Sn) (n : Nat) : Decidable (refP st pl kd xs n) := Classical.propDecidable _

set_option maxHeartbeats 4000000 in
theorem refCheck_spec (st : Int) (pl : ByteArray) (kd : Int) (xs : List Sn) (n : Nat) (hn : n ≤ xs.length) (hps : ∀ x ∈ xs, x.p.size ≤ 9223372036854775807) :
    FnSpec C 27 [shot st pl kd (rdo xs n)] [] (fun r L' => r = .int .i64 (if refP st pl kd xs n then 0 else 51) ∧ L' = []) := by
  have no : ¬ refP st pl kd xs n → (51 : Int) = (if refP st pl kd xs n then 0 else 51) := fun h => by rw [if_neg h]
  refine FnSpec.start C_ok Tryd.func27 rfl rfl Tryd.ntmps27 ?_
  repeat (first | refine Ops.go ?_ | refine And.intro rfl ?_ | refine And.intro (Nat.le_of_ble_eq_true rfl) ?_ | refine And.intro (Int.natCast_nonneg _) ?_ | refine Ord.go ?_ | refine Run.go rfl ?_ | refine Cont.go rfl ?_ | refine OrdP.go ?_)
  refine fun g1 => ?_
  repeat (first | refine Ops.go ?_ | refine And.intro rfl ?_ | refine And.intro (Nat.le_of_ble_eq_true rfl) ?_ | refine And.intro (Int.natCast_nonneg _) ?_ | refine fun (_ : Nat) => ?_ | refine Ord.go ?_ | refine Run.go rfl ?_ | refine Cont.go rfl ?_ | refine OrdP.go ?_)
  refine ⟨fun h => ?_, fun h => ?_⟩
  · have h : st < 0 := h
    repeat (first | refine Ops.go ?_ | refine And.intro rfl ?_ | refine And.intro (Nat.le_of_ble_eq_true rfl) ?_ | refine And.intro (Int.natCast_nonneg _) ?_ | refine fun (_ : Nat) => ?_ | refine Ord.go ?_ | refine Run.go rfl ?_ | refine Cont.go rfl ?_ | refine OrdP.go ?_)
    exact ⟨_, [], FinOk.drop _ _, congrArg (AV.int .i64) (no (fun h2 => by have := h2.1; omega)), rfl⟩
  have h1 : ¬ st < 0 := h
  repeat (first | refine Ops.go ?_ | refine And.intro rfl ?_ | refine And.intro (Nat.le_of_ble_eq_true rfl) ?_ | refine And.intro (Int.natCast_nonneg _) ?_ | refine fun (_ : Nat) => ?_ | refine Ord.go ?_ | refine Run.go rfl ?_ | refine Cont.go rfl ?_ | refine OrdP.go ?_)
  refine ⟨fun h => ?_, fun h => ?_⟩
  · have h : (2147483647 : Int) < st := h
    repeat (first | refine Ops.go ?_ | refine And.intro rfl ?_ | refine And.intro (Nat.le_of_ble_eq_true rfl) ?_ | refine And.intro (Int.natCast_nonneg _) ?_ | refine fun (_ : Nat) => ?_ | refine Ord.go ?_ | refine Run.go rfl ?_ | refine Cont.go rfl ?_ | refine OrdP.go ?_)
    exact ⟨_, [], FinOk.drop _ _, congrArg (AV.int .i64) (no (fun h2 => by have := h2.1; omega)), rfl⟩
  have h2 : ¬ (2147483647 : Int) < st := h
  repeat (first | refine Ops.go ?_ | refine And.intro rfl ?_ | refine And.intro (Nat.le_of_ble_eq_true rfl) ?_ | refine And.intro (Int.natCast_nonneg _) ?_ | refine fun (_ : Nat) => ?_ | refine Ord.go ?_ | refine Run.go rfl ?_ | refine Cont.go rfl ?_ | refine OrdP.go ?_)
  cases hp : decide (parseE pl = 0) with
  | false =>
    have c1 := refIs_spec pl
    rw [hp] at c1
    refine ACall.ret c1 ?_
    repeat (first | refine Ops.go ?_ | refine And.intro rfl ?_ | refine And.intro (Nat.le_of_ble_eq_true rfl) ?_ | refine And.intro (Int.natCast_nonneg _) ?_ | refine fun (_ : Nat) => ?_ | refine Ord.go ?_ | refine Run.go rfl ?_ | refine Cont.go rfl ?_ | refine OrdP.go ?_)
    exact ⟨_, [], FinOk.drop _ _, congrArg (AV.int .i64) (no (fun h2 => absurd h2.2.1 (of_decide_eq_false hp))), rfl⟩
  | true =>
    have c1 := refIs_spec pl
    rw [hp] at c1
    refine ACall.ret c1 ?_
    repeat (first | refine Ops.go ?_ | refine And.intro rfl ?_ | refine And.intro (Nat.le_of_ble_eq_true rfl) ?_ | refine And.intro (Int.natCast_nonneg _) ?_ | refine fun (_ : Nat) => ?_ | refine Ord.go ?_ | refine Run.go rfl ?_ | refine Cont.go rfl ?_ | refine OrdP.go ?_)
    refine ⟨fun h => ?_, fun h => ?_⟩
    · have h : kd < 1 := h
      repeat (first | refine Ops.go ?_ | refine And.intro rfl ?_ | refine And.intro (Nat.le_of_ble_eq_true rfl) ?_ | refine And.intro (Int.natCast_nonneg _) ?_ | refine fun (_ : Nat) => ?_ | refine Ord.go ?_ | refine Run.go rfl ?_ | refine Cont.go rfl ?_ | refine OrdP.go ?_)
      exact ⟨_, [], FinOk.drop _ _, congrArg (AV.int .i64) (no (fun h2 => by have := h2.2.2.1; omega)), rfl⟩
    have h3 : ¬ kd < 1 := h
    repeat (first | refine Ops.go ?_ | refine And.intro rfl ?_ | refine And.intro (Nat.le_of_ble_eq_true rfl) ?_ | refine And.intro (Int.natCast_nonneg _) ?_ | refine fun (_ : Nat) => ?_ | refine Ord.go ?_ | refine Run.go rfl ?_ | refine Cont.go rfl ?_ | refine OrdP.go ?_)
    refine ⟨fun h => ?_, fun h => ?_⟩
    · have h : 3 < kd := h
      repeat (first | refine Ops.go ?_ | refine And.intro rfl ?_ | refine And.intro (Nat.le_of_ble_eq_true rfl) ?_ | refine And.intro (Int.natCast_nonneg _) ?_ | refine fun (_ : Nat) => ?_ | refine Ord.go ?_ | refine Run.go rfl ?_ | refine Cont.go rfl ?_ | refine OrdP.go ?_)
      exact ⟨_, [], FinOk.drop _ _, congrArg (AV.int .i64) (no (fun h2 => by have := h2.2.2.1; omega)), rfl⟩
    have h4 : ¬ 3 < kd := h
    repeat (first | refine Ops.go ?_ | refine And.intro rfl ?_ | refine And.intro (Nat.le_of_ble_eq_true rfl) ?_ | refine And.intro (Int.natCast_nonneg _) ?_ | refine fun (_ : Nat) => ?_ | refine Ord.go ?_ | refine Run.go rfl ?_ | refine Cont.go rfl ?_ | refine OrdP.go ?_)
    refine ⟨fun h => ?_, fun h => ?_⟩
    · have h : (64 : Int) < (n : Int) := h
      repeat (first | refine Ops.go ?_ | refine And.intro rfl ?_ | refine And.intro (Nat.le_of_ble_eq_true rfl) ?_ | refine And.intro (Int.natCast_nonneg _) ?_ | refine fun (_ : Nat) => ?_ | refine Ord.go ?_ | refine Run.go rfl ?_ | refine Cont.go rfl ?_ | refine OrdP.go ?_)
      exact ⟨_, [], FinOk.drop _ _, congrArg (AV.int .i64) (no (fun h2 => by have := h2.2.2.2.1; omega)), rfl⟩
    have h5 : ¬ (64 : Int) < (n : Int) := h
    repeat (first | refine Ops.go ?_ | refine And.intro rfl ?_ | refine And.intro (Nat.le_of_ble_eq_true rfl) ?_ | refine And.intro (Int.natCast_nonneg _) ?_ | refine fun (_ : Nat) => ?_ | refine Ord.go ?_ | refine Run.go rfl ?_ | refine Cont.go rfl ?_ | refine OrdP.go ?_)
    refine ⟨fun h => ?_, fun h => ?_⟩
    · have hn0 : (n : Int) = 0 := h
      have hn0 : n = 0 := by omega
      repeat (first | refine Ops.go ?_ | refine And.intro rfl ?_ | refine And.intro (Nat.le_of_ble_eq_true rfl) ?_ | refine And.intro (Int.natCast_nonneg _) ?_ | refine fun (_ : Nat) => ?_ | refine Ord.go ?_ | refine Run.go rfl ?_ | refine Cont.go rfl ?_ | refine OrdP.go ?_)
      refine ⟨fun hpl => ?_, fun hpl => ?_⟩
      · have hpl : pl = slash := hpl
        repeat (first | refine Ops.go ?_ | refine And.intro rfl ?_ | refine And.intro (Nat.le_of_ble_eq_true rfl) ?_ | refine And.intro (Int.natCast_nonneg _) ?_ | refine fun (_ : Nat) => ?_ | refine Ord.go ?_ | refine Run.go rfl ?_ | refine Cont.go rfl ?_ | refine OrdP.go ?_)
        exact ⟨_, [], FinOk.drop _ _, congrArg (AV.int .i64) (no (fun h2 => h2.2.2.2.2.1 ⟨by omega, hpl⟩)), rfl⟩
      have hne : ¬ (n = 0 ∧ pl = slash) := fun h => hpl h.2
      repeat (first | refine Ops.go ?_ | refine And.intro rfl ?_ | refine And.intro (Nat.le_of_ble_eq_true rfl) ?_ | refine And.intro (Int.natCast_nonneg _) ?_ | refine fun (_ : Nat) => ?_ | refine Ord.go ?_ | refine Run.go rfl ?_ | refine Cont.go rfl ?_ | refine OrdP.go ?_)
      refine Run.loop (fun k env L => env = [.junk, .ptr 0 g1 0, .junk, .int .i64 0, .junk, .junk, .junk, .junk, .junk, .junk, .junk, .junk, .junk, .junk, .junk, .junk, .junk, .junk, .junk, .junk, .junk, .junk, .junk, .junk, .junk, .junk, .junk, .junk, .junk, .junk, .junk, .junk, .junk, .junk, .junk, .junk, .junk, .junk, .junk, .junk, .junk, .junk, .junk, .junk, .junk, .junk, .junk, .junk, .junk, .junk, .junk, .junk, .junk, .junk, .junk, .junk, .junk, .junk, .junk, .junk, .junk, .junk, .junk, .junk, .junk, .junk, .junk, .junk, .junk, .junk, .junk, .junk, .junk, .junk, .junk, .junk, .junk, .junk, .junk, .junk, .junk, .junk, .junk, .junk, .junk, .junk, .junk, .junk, .junk, .junk, .junk, .junk, .junk, .junk, .junk, .junk, .junk, .junk, .junk, .junk, .junk, .junk, .junk, .junk, .junk, .junk, .junk, .junk, .junk, .junk, .junk, .junk, .junk, .junk, .junk, .junk, .junk, .junk, .junk, .junk] ∧ L = [(g1, .cells 24 [.int .i64 st, .str pl, .int .i64 kd, rdo xs n])]) 0
        [.junk, .ptr 0 g1 0, .junk, .int .i64 0, .junk, .junk, .junk, .junk, .junk, .junk, .junk, .junk, .junk, .junk, .junk, .junk, .junk, .junk, .junk, .junk, .junk, .junk, .junk, .junk, .junk, .junk, .junk, .junk, .junk, .junk, .junk, .junk, .junk, .junk, .junk, .junk, .junk, .junk, .junk, .junk, .junk, .junk, .junk, .junk, .junk, .junk, .junk, .junk, .junk, .junk, .junk, .junk, .junk, .junk, .junk, .junk, .junk, .junk, .junk, .junk, .junk, .junk, .junk, .junk, .junk, .junk, .junk, .junk, .junk, .junk, .junk, .junk, .junk, .junk, .junk, .junk, .junk, .junk, .junk, .junk, .junk, .junk, .junk, .junk, .junk, .junk, .junk, .junk, .junk, .junk, .junk, .junk, .junk, .junk, .junk, .junk, .junk, .junk, .junk, .junk, .junk, .junk, .junk, .junk, .junk, .junk, .junk, .junk, .junk, .junk, .junk, .junk, .junk, .junk, .junk, .junk, .junk, .junk, .junk, .junk] ?_ ⟨rfl, rfl⟩ ?_
      · repeat (first | exact trivial | refine ⟨.inl rfl, ?_⟩ | refine ⟨.inr rfl, ?_⟩)
      rintro k env L ⟨rfl, rfl⟩
      repeat (first | refine Ops.go ?_ | refine And.intro rfl ?_ | refine And.intro (Nat.le_of_ble_eq_true rfl) ?_ | refine And.intro (Int.natCast_nonneg _) ?_ | refine fun (_ : Nat) => ?_ | refine Ord.go ?_ | refine Run.go rfl ?_ | refine Cont.go rfl ?_ | refine OrdP.go ?_)
      refine ⟨fun h => absurd (show (0 : Int) < (n : Int) from h) (by omega), fun _ => ?_⟩
      repeat (first | refine Ops.go ?_ | refine And.intro rfl ?_ | refine And.intro (Nat.le_of_ble_eq_true rfl) ?_ | refine And.intro (Int.natCast_nonneg _) ?_ | refine fun (_ : Nat) => ?_ | refine Ord.go ?_ | refine Run.go rfl ?_ | refine Cont.go rfl ?_ | refine OrdP.go ?_)
      exact ⟨_, [], FinOk.drop _ _, congrArg (AV.int .i64) (show (0 : Int) = _ by
        rw [if_pos]
        exact ⟨by omega, of_decide_eq_true hp, by omega, by omega, hne, fun j x hj ex => by omega⟩), rfl⟩
    have hn0 : ¬ (n : Int) = 0 := h
    have hne : ¬ (n = 0 ∧ pl = slash) := fun h => hn0 (by omega)
    repeat (first | refine Ops.go ?_ | refine And.intro rfl ?_ | refine And.intro (Nat.le_of_ble_eq_true rfl) ?_ | refine And.intro (Int.natCast_nonneg _) ?_ | refine fun (_ : Nat) => ?_ | refine Ord.go ?_ | refine Run.go rfl ?_ | refine Cont.go rfl ?_ | refine OrdP.go ?_)
    refine Run.loop (fun k env L => ∃ i : Nat, k = n - i ∧ i ≤ n ∧ (∀ (j : Nat) (x : Sn), j < i → xs[j]? = some x → refNode pl kd xs n j x) ∧
        env = [.junk, .ptr 0 g1 0, .junk, .int .i64 i, .junk, .junk, .junk, .junk, .junk, .junk, .junk, .junk, .junk, .junk, .junk, .junk, .junk, .junk, .junk, .junk, .junk, .junk, .junk, .junk, .junk, .junk, .junk, .junk, .junk, .junk, .junk, .junk, .junk, .junk, .junk, .junk, .junk, .junk, .junk, .junk, .junk, .junk, .junk, .junk, .junk, .junk, .junk, .junk, .junk, .junk, .junk, .junk, .junk, .junk, .junk, .junk, .junk, .junk, .junk, .junk, .junk, .junk, .junk, .junk, .junk, .junk, .junk, .junk, .junk, .junk, .junk, .junk, .junk, .junk, .junk, .junk, .junk, .junk, .junk, .junk, .junk, .junk, .junk, .junk, .junk, .junk, .junk, .junk, .junk, .junk, .junk, .junk, .junk, .junk, .junk, .junk, .junk, .junk, .junk, .junk, .junk, .junk, .junk, .junk, .junk, .junk, .junk, .junk, .junk, .junk, .junk, .junk, .junk, .junk, .junk, .junk, .junk, .junk, .junk, .junk] ∧ L = [(g1, .cells 24 [.int .i64 st, .str pl, .int .i64 kd, rdo xs n])]) n
      [.junk, .ptr 0 g1 0, .junk, .int .i64 0, .junk, .junk, .junk, .junk, .junk, .junk, .junk, .junk, .junk, .junk, .junk, .junk, .junk, .junk, .junk, .junk, .junk, .junk, .junk, .junk, .junk, .junk, .junk, .junk, .junk, .junk, .junk, .junk, .junk, .junk, .junk, .junk, .junk, .junk, .junk, .junk, .junk, .junk, .junk, .junk, .junk, .junk, .junk, .junk, .junk, .junk, .junk, .junk, .junk, .junk, .junk, .junk, .junk, .junk, .junk, .junk, .junk, .junk, .junk, .junk, .junk, .junk, .junk, .junk, .junk, .junk, .junk, .junk, .junk, .junk, .junk, .junk, .junk, .junk, .junk, .junk, .junk, .junk, .junk, .junk, .junk, .junk, .junk, .junk, .junk, .junk, .junk, .junk, .junk, .junk, .junk, .junk, .junk, .junk, .junk, .junk, .junk, .junk, .junk, .junk, .junk, .junk, .junk, .junk, .junk, .junk, .junk, .junk, .junk, .junk, .junk, .junk, .junk, .junk, .junk, .junk] ?_ ⟨0, by omega, by omega, (fun j _ hj _ => absurd hj (Nat.not_lt_zero j)), rfl, rfl⟩ ?_
    · repeat (first | exact trivial | refine ⟨.inl rfl, ?_⟩ | refine ⟨.inr rfl, ?_⟩)
    rintro k env L ⟨i, rfl, hi, hP, rfl, rfl⟩
    repeat (first | refine Ops.go ?_ | refine And.intro rfl ?_ | refine And.intro (Nat.le_of_ble_eq_true rfl) ?_ | refine And.intro (Int.natCast_nonneg _) ?_ | refine fun (_ : Nat) => ?_ | refine Ord.go ?_ | refine Run.go rfl ?_ | refine Cont.go rfl ?_ | refine OrdP.go ?_)
    refine ⟨fun h => ?_, fun h => ?_⟩
    · have h : (i : Int) < (n : Int) := h
      obtain ⟨x, ex⟩ : ∃ x, xs[i]? = some x := ⟨xs[i], List.getElem?_eq_getElem (by omega)⟩
      have bad : ¬ refNode pl kd xs n i x → (51 : Int) = (if refP st pl kd xs n then 0 else 51) := fun hb => no (fun h2 => hb (h2.2.2.2.2.2 i x (by omega) ex))
      repeat (first | refine Ops.go ?_ | refine And.intro rfl ?_ | refine And.intro (Nat.le_of_ble_eq_true rfl) ?_ | refine And.intro (Int.natCast_nonneg _) ?_ | refine fun (_ : Nat) => ?_ | refine Ord.go ?_ | refine Run.go rfl ?_ | refine Cont.go rfl ?_ | refine OrdP.go ?_)
      refine ⟨h, enc x, enc_at _ _ _ ex, ?_⟩
      repeat (first | refine Ops.go ?_ | refine And.intro rfl ?_ | refine And.intro (Nat.le_of_ble_eq_true rfl) ?_ | refine And.intro (Int.natCast_nonneg _) ?_ | refine fun (_ : Nat) => ?_ | refine Ord.go ?_ | refine Run.go rfl ?_ | refine Cont.go rfl ?_ | refine OrdP.go ?_)
      have b1 := refIs_spec x.p
      have b2 := in_spec kd pl x.p
      have b3 := refHolds_spec x.d x.v
      cases e1 : decide (parseE x.p = 0) with
      | false =>
        rw [e1] at b1
        refine ACall.ret b1 ?_
        repeat (first | refine Ops.go ?_ | refine And.intro rfl ?_ | refine And.intro (Nat.le_of_ble_eq_true rfl) ?_ | refine And.intro (Int.natCast_nonneg _) ?_ | refine fun (_ : Nat) => ?_ | refine Ord.go ?_ | refine Run.go rfl ?_ | refine Cont.go rfl ?_ | refine OrdP.go ?_)
        exact ⟨_, [], FinOk.drop _ _, congrArg (AV.int .i64) (bad (fun hb => absurd hb.1 (of_decide_eq_false e1))), rfl⟩
      | true =>
      rw [e1] at b1
      refine ACall.ret b1 ?_
      repeat (first | refine Ops.go ?_ | refine And.intro rfl ?_ | refine And.intro (Nat.le_of_ble_eq_true rfl) ?_ | refine And.intro (Int.natCast_nonneg _) ?_ | refine fun (_ : Nat) => ?_ | refine Ord.go ?_ | refine Run.go rfl ?_ | refine Cont.go rfl ?_ | refine OrdP.go ?_)
      cases e2 : decide (inP kd pl x.p) with
      | false =>
        rw [e2] at b2
        refine ACall.ret b2 ?_
        repeat (first | refine Ops.go ?_ | refine And.intro rfl ?_ | refine And.intro (Nat.le_of_ble_eq_true rfl) ?_ | refine And.intro (Int.natCast_nonneg _) ?_ | refine fun (_ : Nat) => ?_ | refine Ord.go ?_ | refine Run.go rfl ?_ | refine Cont.go rfl ?_ | refine OrdP.go ?_)
        exact ⟨_, [], FinOk.drop _ _, congrArg (AV.int .i64) (bad (fun hb => absurd hb.2.1 (of_decide_eq_false e2))), rfl⟩
      | true =>
      rw [e2] at b2
      refine ACall.ret b2 ?_
      repeat (first | refine Ops.go ?_ | refine And.intro rfl ?_ | refine And.intro (Nat.le_of_ble_eq_true rfl) ?_ | refine And.intro (Int.natCast_nonneg _) ?_ | refine fun (_ : Nat) => ?_ | refine Ord.go ?_ | refine Run.go rfl ?_ | refine Cont.go rfl ?_ | refine OrdP.go ?_)
      cases e3 : decide (x.d.size ≤ 64 ∧ 0 ≤ x.v ∧ x.v ≤ 2147483647) with
      | false =>
        rw [e3] at b3
        refine ACall.ret b3 ?_
        repeat (first | refine Ops.go ?_ | refine And.intro rfl ?_ | refine And.intro (Nat.le_of_ble_eq_true rfl) ?_ | refine And.intro (Int.natCast_nonneg _) ?_ | refine fun (_ : Nat) => ?_ | refine Ord.go ?_ | refine Run.go rfl ?_ | refine Cont.go rfl ?_ | refine OrdP.go ?_)
        exact ⟨_, [], FinOk.drop _ _, congrArg (AV.int .i64) (bad (fun hb => absurd hb.2.2.1 (of_decide_eq_false e3))), rfl⟩
      | true =>
      rw [e3] at b3
      refine ACall.ret b3 ?_
      have e1 := of_decide_eq_true e1
      have e2 := of_decide_eq_true e2
      have e3 := of_decide_eq_true e3
      repeat (first | refine Ops.go ?_ | refine And.intro rfl ?_ | refine And.intro (Nat.le_of_ble_eq_true rfl) ?_ | refine And.intro (Int.natCast_nonneg _) ?_ | refine fun (_ : Nat) => ?_ | refine Ord.go ?_ | refine Run.go rfl ?_ | refine Cont.go rfl ?_ | refine OrdP.go ?_)
      refine Run.drawn true [0, 1, 2, 3, 4, 5, 6, 7, 8, 9, 10, 11, 12, 13, 14] (by kernel_rfl) ?_
      repeat (first | refine Ops.go ?_ | refine And.intro rfl ?_ | refine And.intro (Nat.le_of_ble_eq_true rfl) ?_ | refine And.intro (Int.natCast_nonneg _) ?_ | refine fun (_ : Nat) => ?_ | refine Ord.go ?_ | refine Run.go rfl ?_ | refine Cont.go rfl ?_ | refine OrdP.go ?_)
      refine ⟨fun hi0 => ?_, fun hi0 => ?_⟩
      case' refine_1 =>
        have hi0 : (0 : Int) < (i : Int) := hi0
        obtain ⟨y, ey⟩ : ∃ y, xs[i - 1]? = some y := ⟨xs[i - 1], List.getElem?_eq_getElem (by omega)⟩
        repeat (first | refine Ops.go ?_ | refine And.intro rfl ?_ | refine And.intro (Nat.le_of_ble_eq_true rfl) ?_ | refine And.intro (Int.natCast_nonneg _) ?_ | refine fun (_ : Nat) => ?_ | refine Ord.go ?_ | refine Run.go rfl ?_ | refine Cont.go rfl ?_ | refine OrdP.go ?_)
        refine fun r hr => ?_
        obtain rfl : r = ((i - 1 : Nat) : Int) := by rw [hr, IntKind.wrap_i64]; omega
        repeat (first | refine Ops.go ?_ | refine And.intro rfl ?_ | refine And.intro (Nat.le_of_ble_eq_true rfl) ?_ | refine And.intro (Int.natCast_nonneg _) ?_ | refine fun (_ : Nat) => ?_ | refine Ord.go ?_ | refine Run.go rfl ?_ | refine Cont.go rfl ?_ | refine OrdP.go ?_)
        refine ⟨show ((i - 1 : Nat) : Int) < (n : Int) by omega, enc y, enc_at _ _ _ ey, ?_⟩
        repeat (first | refine Ops.go ?_ | refine And.intro rfl ?_ | refine And.intro (Nat.le_of_ble_eq_true rfl) ?_ | refine And.intro (Int.natCast_nonneg _) ?_ | refine fun (_ : Nat) => ?_ | refine Ord.go ?_ | refine Run.go rfl ?_ | refine Cont.go rfl ?_ | refine OrdP.go ?_)
        refine ACallQ.ret (refOrder_spec y.p x.p (hps y (List.mem_of_getElem? ey))) ?_
        repeat (first | refine Ops.go ?_ | refine And.intro rfl ?_ | refine And.intro (Nat.le_of_ble_eq_true rfl) ?_ | refine And.intro (Int.natCast_nonneg _) ?_ | refine fun (_ : Nat) => ?_ | refine Ord.go ?_ | refine Run.go rfl ?_ | refine Cont.go rfl ?_ | refine OrdP.go ?_)
        refine ⟨fun ho => ?_, fun ho => ?_⟩
        · have ho : (0 : Int) ≤ orderB y.p x.p := ho
          repeat (first | refine Ops.go ?_ | refine And.intro rfl ?_ | refine And.intro (Nat.le_of_ble_eq_true rfl) ?_ | refine And.intro (Int.natCast_nonneg _) ?_ | refine fun (_ : Nat) => ?_ | refine Ord.go ?_ | refine Run.go rfl ?_ | refine Cont.go rfl ?_ | refine OrdP.go ?_)
          exact ⟨_, [], FinOk.drop _ _, congrArg (AV.int .i64) (bad (fun hb => by
            obtain ⟨z, ez, hz⟩ := hb.2.2.2.1 (by omega)
            rw [ey] at ez; cases ez
            omega)), rfl⟩
        have hord : i ≠ 0 → ∃ y, xs[i - 1]? = some y ∧ orderB y.p x.p < 0 := fun _ => ⟨y, ey, by have ho : ¬ (0 : Int) ≤ orderB y.p x.p := ho; omega⟩
      case' refine_2 =>
        have hi0 : ¬ (0 : Int) < (i : Int) := hi0
        have hord : i ≠ 0 → ∃ y, xs[i - 1]? = some y ∧ orderB y.p x.p < 0 := fun h => absurd h (by omega)
      all_goals
        repeat (first | refine Ops.go ?_ | refine And.intro rfl ?_ | refine And.intro (Nat.le_of_ble_eq_true rfl) ?_ | refine And.intro (Int.natCast_nonneg _) ?_ | refine fun (_ : Nat) => ?_ | refine Ord.go ?_ | refine Run.go rfl ?_ | refine Cont.go rfl ?_ | refine OrdP.go ?_)
        refine ⟨fun hk => ?_, fun hk => ?_⟩
        case' refine_1 =>
          have hk : kd = 2 := hk
          repeat (first | refine Ops.go ?_ | refine And.intro rfl ?_ | refine And.intro (Nat.le_of_ble_eq_true rfl) ?_ | refine And.intro (Int.natCast_nonneg _) ?_ | refine fun (_ : Nat) => ?_ | refine Ord.go ?_ | refine Run.go rfl ?_ | refine Cont.go rfl ?_ | refine OrdP.go ?_)
          refine ⟨fun hd => ?_, fun hd => ?_⟩
          · have hd : x.d ≠ ⟨#[]⟩ := hd
            repeat (first | refine Ops.go ?_ | refine And.intro rfl ?_ | refine And.intro (Nat.le_of_ble_eq_true rfl) ?_ | refine And.intro (Int.natCast_nonneg _) ?_ | refine fun (_ : Nat) => ?_ | refine Ord.go ?_ | refine Run.go rfl ?_ | refine Cont.go rfl ?_ | refine OrdP.go ?_)
            exact ⟨_, [], FinOk.drop _ _, congrArg (AV.int .i64) (bad (fun hb => hd (hb.2.2.2.2.1 hk).1)), rfl⟩
          have hd : x.d = ⟨#[]⟩ := Classical.not_not.1 hd
          repeat (first | refine Ops.go ?_ | refine And.intro rfl ?_ | refine And.intro (Nat.le_of_ble_eq_true rfl) ?_ | refine And.intro (Int.natCast_nonneg _) ?_ | refine fun (_ : Nat) => ?_ | refine Ord.go ?_ | refine Run.go rfl ?_ | refine Cont.go rfl ?_ | refine OrdP.go ?_)
          refine ⟨fun hv => ?_, fun hv => ?_⟩
          · have hv : x.v ≠ 0 := hv
            repeat (first | refine Ops.go ?_ | refine And.intro rfl ?_ | refine And.intro (Nat.le_of_ble_eq_true rfl) ?_ | refine And.intro (Int.natCast_nonneg _) ?_ | refine fun (_ : Nat) => ?_ | refine Ord.go ?_ | refine Run.go rfl ?_ | refine Cont.go rfl ?_ | refine OrdP.go ?_)
            exact ⟨_, [], FinOk.drop _ _, congrArg (AV.int .i64) (bad (fun hb => hv (hb.2.2.2.2.1 hk).2)), rfl⟩
          have hv : x.v = 0 := Classical.not_not.1 hv
          have hbare : kd = 2 → bare x := fun _ => ⟨hd, hv⟩
        case' refine_2 =>
          have hk : ¬ kd = 2 := hk
          have hbare : kd = 2 → bare x := fun h => absurd h hk
        all_goals
          repeat (first | refine Ops.go ?_ | refine And.intro rfl ?_ | refine And.intro (Nat.le_of_ble_eq_true rfl) ?_ | refine And.intro (Int.natCast_nonneg _) ?_ | refine fun (_ : Nat) => ?_ | refine Ord.go ?_ | refine Run.go rfl ?_ | refine Cont.go rfl ?_ | refine OrdP.go ?_)
          refine Run.drawn true [0, 1, 2, 3, 4, 5, 6, 7, 8, 9, 10, 11, 12, 13] (by kernel_rfl) ?_
          repeat (first | refine Ops.go ?_ | refine And.intro rfl ?_ | refine And.intro (Nat.le_of_ble_eq_true rfl) ?_ | refine And.intro (Int.natCast_nonneg _) ?_ | refine fun (_ : Nat) => ?_ | refine Ord.go ?_ | refine Run.go rfl ?_ | refine Cont.go rfl ?_ | refine OrdP.go ?_)
          refine ⟨fun hp2 => ?_, fun hp2 => ?_⟩
          case' refine_1 =>
            have hp2 : x.p ≠ pl := hp2
            repeat (first | refine Ops.go ?_ | refine And.intro rfl ?_ | refine And.intro (Nat.le_of_ble_eq_true rfl) ?_ | refine And.intro (Int.natCast_nonneg _) ?_ | refine fun (_ : Nat) => ?_ | refine Ord.go ?_ | refine Run.go rfl ?_ | refine Cont.go rfl ?_ | refine OrdP.go ?_)
            refine ACallQ.ret (above_spec x.p) ?_
            repeat (first | refine Ops.go ?_ | refine And.intro rfl ?_ | refine And.intro (Nat.le_of_ble_eq_true rfl) ?_ | refine And.intro (Int.natCast_nonneg _) ?_ | refine fun (_ : Nat) => ?_ | refine Ord.go ?_ | refine Run.go rfl ?_ | refine Cont.go rfl ?_ | refine OrdP.go ?_)
            refine ACallQ.pure _ (find_spec xs n hn (by omega) (parentB x.p)) ?_
            rintro r L' ⟨⟨z, rfl, hz⟩, rfl⟩
            repeat (first | refine Ops.go ?_ | refine And.intro rfl ?_ | refine And.intro (Nat.le_of_ble_eq_true rfl) ?_ | refine And.intro (Int.natCast_nonneg _) ?_ | refine fun (_ : Nat) => ?_ | refine Ord.go ?_ | refine Run.go rfl ?_ | refine Cont.go rfl ?_ | refine OrdP.go ?_)
            refine ⟨fun hz0 => ?_, fun hz0 => ?_⟩
            · have hz0 : z < 0 := hz0
              repeat (first | refine Ops.go ?_ | refine And.intro rfl ?_ | refine And.intro (Nat.le_of_ble_eq_true rfl) ?_ | refine And.intro (Int.natCast_nonneg _) ?_ | refine fun (_ : Nat) => ?_ | refine Ord.go ?_ | refine Run.go rfl ?_ | refine Cont.go rfl ?_ | refine OrdP.go ?_)
              exact ⟨_, [], FinOk.drop _ _, congrArg (AV.int .i64) (bad (fun hb => hz.1 hz0 (hb.2.2.2.2.2 hp2))), rfl⟩
            have hup : x.p ≠ pl → ∃ k z, k < n ∧ xs[k]? = some z ∧ z.p = parentB x.p := fun _ => Classical.byContradiction fun hno => (show ¬ z < 0 from hz0) (hz.2 hno)
          case' refine_2 =>
            have hp2 : x.p = pl := Classical.not_not.1 hp2
            have hup : x.p ≠ pl → ∃ k z, k < n ∧ xs[k]? = some z ∧ z.p = parentB x.p := fun h => absurd hp2 h
          all_goals
            repeat (first | refine Ops.go ?_ | refine And.intro rfl ?_ | refine And.intro (Nat.le_of_ble_eq_true rfl) ?_ | refine And.intro (Int.natCast_nonneg _) ?_ | refine fun (_ : Nat) => ?_ | refine Ord.go ?_ | refine Run.go rfl ?_ | refine Cont.go rfl ?_ | refine OrdP.go ?_)
            refine fun r hr => ?_
            obtain rfl := add1 hr (by omega)
            repeat (first | refine Ops.go ?_ | refine And.intro rfl ?_ | refine And.intro (Nat.le_of_ble_eq_true rfl) ?_ | refine And.intro (Int.natCast_nonneg _) ?_ | refine fun (_ : Nat) => ?_ | refine Ord.go ?_ | refine Run.go rfl ?_ | refine Cont.go rfl ?_ | refine OrdP.go ?_)
            refine Cont.lp ?_
            refine ⟨n - (i + 1), [.junk, .ptr 0 g1 0, .junk, .int .i64 (i + 1 : Nat), .junk, .junk, .junk, .junk, .junk, .junk, .junk, .junk, .junk, .junk, .junk, .junk, .junk, .junk, .junk, .junk, .junk, .junk, .junk, .junk, .junk, .junk, .junk, .junk, .junk, .junk, .junk, .junk, .junk, .junk, .junk, .junk, .junk, .junk, .junk, .junk, .junk, .junk, .junk, .junk, .junk, .junk, .junk, .junk, .junk, .junk, .junk, .junk, .junk, .junk, .junk, .junk, .junk, .junk, .junk, .junk, .junk, .junk, .junk, .junk, .junk, .junk, .junk, .junk, .junk, .junk, .junk, .junk, .junk, .junk, .junk, .junk, .junk, .junk, .junk, .junk, .junk, .junk, .junk, .junk, .junk, .junk, .junk, .junk, .junk, .junk, .junk, .junk, .junk, .junk, .junk, .junk, .junk, .junk, .junk, .junk, .junk, .junk, .junk, .junk, .junk, .junk, .junk, .junk, .junk, .junk, .junk, .junk, .junk, .junk, .junk, .junk, .junk, .junk, .junk, .junk], 1, by omega, ?_, ⟨i + 1, rfl, by omega, ?_, rfl, rfl⟩⟩
            · repeat (first | exact trivial | refine ⟨.inl rfl, ?_⟩ | refine ⟨.inr rfl, ?_⟩)
            · intro j w hj ew
              by_cases e : j = i
              · subst e; rw [ex] at ew; cases ew; exact ⟨e1, e2, e3, hord, hbare, hup⟩
              · exact hP j w (by omega) ew
    · have h : ¬ (i : Int) < (n : Int) := h
      repeat (first | refine Ops.go ?_ | refine And.intro rfl ?_ | refine And.intro (Nat.le_of_ble_eq_true rfl) ?_ | refine And.intro (Int.natCast_nonneg _) ?_ | refine fun (_ : Nat) => ?_ | refine Ord.go ?_ | refine Run.go rfl ?_ | refine Cont.go rfl ?_ | refine OrdP.go ?_)
      exact ⟨_, [], FinOk.drop _ _, congrArg (AV.int .i64) (show (0 : Int) = _ by
        rw [if_pos]
        exact ⟨by omega, of_decide_eq_true hp, by omega, by omega, hne, fun j x hj ex => hP j x (by omega) ex⟩), rfl⟩
end Go.Proofs.YtfohedaadncefaaDoor.HBT
/- The plain law of Check: what the program's text asks and what the document's text asks is the same. -/
namespace Go.Proofs.YtfohedaadncefaaDoor.HBT
open Go Go.Proofs.YtfohedaadncefaaDoor.HB Go.RowKit
set_option maxRecDepth 8000

theorem parent_place {s : ByteArray} (h : parseE s = 0) (hp : parseE (parentB s) = 0) : namesOf s ≠ [] ∧ parentE s = 0 := by
  have h1 := parent_of h
  by_cases hn : namesOf s = []
  · have : parentE s = 47 := by rw [h1.1, if_pos hn]
    have h2 : parentB s = ⟨#[]⟩ := by unfold parentB; rw [if_pos (by omega)]
    rw [h2] at hp
    exact absurd hp (by decide)
  · exact ⟨hn, by rw [h1.1, if_neg hn]⟩

theorem join_take : ∀ (l : List (List UInt8)) (n : Nat), n < l.length → (∀ x ∈ l, x ≠ []) → ∃ t, t ≠ [] ∧ Lib.join l [47] = Lib.join (l.take n) [47] ++ t
  | [], n, h, _ => absurd h (Nat.not_lt_zero n)
  | x :: l, 0, _, hx => by
    refine ⟨Lib.join (x :: l) [47], ?_, by simp [Lib.join, List.intercalate]⟩
    cases l with
    | nil => rw [Lib.join_one]; exact hx x (by simp)
    | cons y l => simp [Lib.join, List.intercalate, List.intersperse, hx x (by simp)]
  | [x], n + 1, h, _ => by simp at h
  | x :: y :: l, n + 1, h, hx => by
    obtain ⟨t, ht, e⟩ := join_take (y :: l) n (by simp at h ⊢; omega) (fun z hz => hx z (by simp at hz ⊢; right; exact hz))
    cases n with
    | zero =>
      refine ⟨47 :: Lib.join (y :: l) [47], by simp, ?_⟩
      simp [Lib.join, List.intercalate]
    | succ n =>
      refine ⟨t, ht, ?_⟩
      have h1 : Lib.join (x :: y :: l) [47] = x ++ 47 :: Lib.join (y :: l) [47] := by simp [Lib.join, List.intercalate, List.intersperse]
      have h2 : Lib.join ((x :: y :: l).take (n + 1 + 1)) [47] = x ++ 47 :: Lib.join ((y :: l).take (n + 1)) [47] := by simp [Lib.join, List.intercalate]
      rw [h1, h2, e]
      simp

/-- A place stands behind its parent. -/
theorem parent_lt {s : ByteArray} (h : parseE s = 0) (hp : parseE (parentB s) = 0) : orderB (parentB s) s < 0 := by
  obtain ⟨hn, _⟩ := parent_place h hp
  obtain ⟨hok, hs⟩ := place_names h
  have hl : 0 < (namesOf s).length := List.length_pos_iff.2 hn
  rw [(parent_of h).2 hn]
  unfold orderB
  rw [congrArg (fun z : ByteArray => z.data.toList) hs, placed_data, placed_data]
  obtain ⟨t, ht, e⟩ := join_take ((namesOf s).map (·.data.toList)) ((namesOf s).length - 1) (by simp; omega) (fun x hx => by
    obtain ⟨y, hy, rfl⟩ := List.mem_map.1 hx
    exact name_ne_nil (hok.2 y hy))
  have e2 : joinB (namesOf s) = joinB ((namesOf s).take ((namesOf s).length - 1)) ++ t := by unfold joinB; rw [e, List.map_take]
  rw [e2, ← List.cons_append]
  exact orderL_prefix _ _ ht

theorem below_places {low high : ByteArray} (hl : parseE low = 0) (hh : parseE high = 0) : belowR low high ↔ belowB low high := by
  unfold belowR belowB namesR
  rw [if_pos hl, if_pos hh]
  obtain ⟨okh, eh⟩ := place_names hh
  obtain ⟨okl, el⟩ := place_names hl
  constructor
  · rintro ⟨h1, h2⟩
    exact ⟨hl, _, h1, by rw [h2]; exact eh⟩
  · rintro ⟨_, j, hj, e⟩
    have := placed_inj okh (okl.take j) (eh.symm.trans e)
    rw [this, List.length_take, Nat.min_eq_left (by omega)]
    exact ⟨hj, rfl⟩

theorem check_ref (st : Int) (pl : ByteArray) (kd : Int) (xs : List Sn) (n : Nat) (hn : n ≤ xs.length) : checkP st pl kd xs n ↔ refP st pl kd xs n := by
  unfold checkP refP
  refine and_congr_right fun _ => and_congr_right fun hpl => and_congr_right fun hkd => and_congr_right fun _ => and_congr_right fun _ => ?_
  constructor
  · intro H i x hi ex
    obtain ⟨h1, h2, h3⟩ := H i x hi ex
    obtain ⟨x0, e0⟩ : ∃ x0, xs[0]? = some x0 := ⟨xs[0], List.getElem?_eq_getElem (by omega)⟩
    have first : x0.p = pl := by
      rcases (H 0 x0 (by omega) e0).2.2 with ⟨_, h, _⟩ | ⟨h, _⟩
      · exact h
      · exact absurd rfl h
    rcases h3 with ⟨rfl, hp, hb⟩ | ⟨hi0, y, ey, hy, hb⟩
    · exact ⟨h1, .inl hp, h2, fun h => absurd rfl h, fun hk => hb.resolve_left (fun h => h hk), fun h => absurd hp h⟩
    · refine ⟨h1, ?_, h2, fun _ => ⟨y, ey, hy⟩, ?_, fun hne => ?_⟩
      · rcases hb with ⟨hk, hc, _⟩ | ⟨hk, hc, _⟩
        · exact .inr (.inl ⟨hk, hc.2⟩)
        · exact .inr (.inr ⟨by omega, hk, (below_places h1 hpl).2 hc⟩)
      · intro hk
        rcases hb with ⟨_, _, hb⟩ | ⟨hk3, _⟩
        · exact hb
        · omega
      · rcases hb with ⟨hk, hc, _⟩ | ⟨_, _, k, z, hk, ez, hz⟩
        · exact ⟨0, x0, by omega, e0, first.trans hc.2.symm⟩
        · exact ⟨k, z, by omega, ez, hz⟩
  · intro H i x hi ex
    have hs : Sorted xs n := sorted_of hn (fun k x y hk ex ey => by
      obtain ⟨_, _, _, h4, _⟩ := H (k + 1) y (by omega) ey
      obtain ⟨z, ez, hz⟩ := h4 (by omega)
      rw [Nat.add_sub_cancel, ex] at ez
      cases ez
      exact hz)
    have up : ∀ (i : Nat) (x : Sn), i < n → xs[i]? = some x → x.p ≠ pl → ∃ k z, k < i ∧ xs[k]? = some z ∧ z.p = parentB x.p := fun i x hi ex hne => by
      obtain ⟨h1, _, _, _, _, h6⟩ := H i x hi ex
      obtain ⟨k, z, hk, ez, hz⟩ := h6 hne
      have hzp := (H k z hk ez).1
      have hlt := parent_lt h1 (by rw [← hz]; exact hzp)
      rw [← hz] at hlt
      refine ⟨k, z, ?_, ez, hz⟩
      rcases Nat.lt_trichotomy k i with h | h | h
      · exact h
      · subst h
        rw [ex] at ez; cases ez
        have := (@orderL_eq x.p.data.toList x.p.data.toList).2 rfl
        unfold orderB at hlt
        omega
      · have h7 := hs i k x z h hk ex ez
        have h8 := orderL_swap x.p.data.toList z.p.data.toList
        unfold orderB at hlt h7
        omega
    obtain ⟨x0, e0⟩ : ∃ x0, xs[0]? = some x0 := ⟨xs[0], List.getElem?_eq_getElem (by omega)⟩
    have first : x0.p = pl := by
      apply Classical.byContradiction
      intro hne
      obtain ⟨k, _, hk, _⟩ := up 0 x0 (by omega) e0 hne
      exact absurd hk (Nat.not_lt_zero k)
    obtain ⟨h1, h2, h3, h4, h5, h6⟩ := H i x hi ex
    refine ⟨h1, h3, ?_⟩
    by_cases hi0 : i = 0
    · subst hi0
      rw [e0] at ex; cases ex
      refine .inl ⟨rfl, first, ?_⟩
      by_cases hk : kd = 2
      · exact .inr (h5 hk)
      · exact .inl hk
    · obtain ⟨y, ey, hy⟩ := h4 hi0
      refine .inr ⟨hi0, y, ey, hy, ?_⟩
      have hne : x.p ≠ pl := fun e => by
        have h7 := hs 0 i x0 x (by omega) hi e0 ex
        rw [first, e] at h7
        have := (@orderL_eq pl.data.toList pl.data.toList).2 rfl
        unfold orderB at h7
        omega
      rcases h2 with h2 | ⟨hk, h2⟩ | ⟨_, hk, h2⟩
      · exact absurd h2 hne
      · exact .inl ⟨hk, ⟨(parent_place h1 (by rw [h2]; exact hpl)).2, h2⟩, h5 hk⟩
      · exact .inr ⟨hk, (below_places h1 hpl).1 h2, up i x hi ex hne⟩

end Go.Proofs.YtfohedaadncefaaDoor.HBT
