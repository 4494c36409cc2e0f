/- The contracts of 'begins' and 'Covers' of the place text. -/
import Derived.Test.YtiikjcdjgmlcgaaGreatDoorTzTy
import Derived.Test.YtiikjcdjgmlcgaaGreatDoorTzT9
namespace Go.Proofs.YtiikjcdjgmlcgaaGreatDoor.HBT
open Go Go.Proofs.YtiikjcdjgmlcgaaGreatDoor.HB Go.RowKit
set_option maxRecDepth 8000

abbrev rds (l : List ByteArray) : AV := .ro 1 (l.map .str) l.length
theorem str_at (l : List ByteArray) (i : Nat) (x : ByteArray) (h : l[i]? = some x) : (l.map AV.str)[i]? = some (.str x) := by rw [List.getElem?_map, h]; rfl

/-- Does the first list begin with the second? -/
def beginsP (c w : List ByteArray) : Prop := w.length ≤ c.length ∧ ∀ i < w.length, c[i]? = w[i]?
noncomputable instance (c w : List ByteArray) : Decidable (beginsP c w) := Classical.propDecidable _

theorem begins_spec (c w : List ByteArray) (_hc : c.length ≤ 1000) (hw : w.length ≤ 1000) : FnSpec C 56 [rds c, rds w] [] (fun r L' => r = .bool (decide (beginsP c w)) ∧ L' = []) := by
  refine FnSpec.start C_ok Tryz.func56 rfl rfl Tryz.ntmps56 ?_
  repeat (first | refine Ops.go ?_ | refine And.intro rfl ?_ | refine And.intro (Nat.le_of_ble_eq_true rfl) ?_ | refine And.intro (Int.natCast_nonneg _) ?_ | refine fun (_ : Nat) => ?_ | refine Ord.go ?_ | refine Run.go rfl ?_ | refine Cont.go rfl ?_ | refine OrdP.go ?_)
  refine ⟨fun h => ?_, fun h => ?_⟩
  · have h : (c.length : Int) < (w.length : Int) := h
    repeat (first | refine Ops.go ?_ | refine And.intro rfl ?_ | refine And.intro (Nat.le_of_ble_eq_true rfl) ?_ | refine And.intro (Int.natCast_nonneg _) ?_ | refine fun (_ : Nat) => ?_ | refine Ord.go ?_ | refine Run.go rfl ?_ | refine Cont.go rfl ?_ | refine OrdP.go ?_)
    exact ⟨_, [], FinOk.drop _ _, congrArg AV.bool (decide_eq_false (fun hb => by have := hb.1; omega)).symm, rfl⟩
  have h : ¬ (c.length : Int) < (w.length : Int) := h
  repeat (first | refine Ops.go ?_ | refine And.intro rfl ?_ | refine And.intro (Nat.le_of_ble_eq_true rfl) ?_ | refine And.intro (Int.natCast_nonneg _) ?_ | refine fun (_ : Nat) => ?_ | refine Ord.go ?_ | refine Run.go rfl ?_ | refine Cont.go rfl ?_ | refine OrdP.go ?_)
  refine Run.loop (fun k env L => ∃ i : Nat, k = w.length - i ∧ i ≤ w.length ∧ (∀ j < i, c[j]? = w[j]?) ∧ env = [rds c, rds w, .junk, .junk, .junk, .junk, .junk, .junk, .junk, .junk, .junk, .junk, rds w, .int .i64 w.length, .int .i64 i, .junk, .junk, .junk, .junk, .junk, .junk, .junk, .junk, .junk, .junk, .junk] ∧ L = []) w.length
    [rds c, rds w, .junk, .junk, .junk, .junk, .junk, .junk, .junk, .junk, .junk, .junk, rds w, .int .i64 w.length, .int .i64 (0 : Nat), .junk, .junk, .junk, .junk, .junk, .junk, .junk, .junk, .junk, .junk, .junk] ?_ ⟨0, by omega, by omega, (fun j hj => absurd hj (Nat.not_lt_zero j)), rfl, rfl⟩ ?_
  · repeat (first | exact trivial | refine ⟨.inl rfl, ?_⟩ | refine ⟨.inr rfl, ?_⟩)
  rintro k env L ⟨i, rfl, hi, hP, rfl, rfl⟩
  repeat (first | refine Ops.go ?_ | refine And.intro rfl ?_ | refine And.intro (Nat.le_of_ble_eq_true rfl) ?_ | refine And.intro (Int.natCast_nonneg _) ?_ | refine fun (_ : Nat) => ?_ | refine Ord.go ?_ | refine Run.go rfl ?_ | refine Cont.go rfl ?_ | refine OrdP.go ?_)
  refine ⟨fun h2 => ?_, fun h2 => ?_⟩
  · have h2 : (i : Int) < (w.length : Int) := h2
    obtain ⟨y, ey⟩ : ∃ y, w[i]? = some y := ⟨w[i], List.getElem?_eq_getElem (by omega)⟩
    obtain ⟨x, ex⟩ : ∃ x, c[i]? = some x := ⟨c[i]'(by omega), List.getElem?_eq_getElem (by omega)⟩
    repeat (first | refine Ops.go ?_ | refine And.intro rfl ?_ | refine And.intro (Nat.le_of_ble_eq_true rfl) ?_ | refine And.intro (Int.natCast_nonneg _) ?_ | refine fun (_ : Nat) => ?_ | refine Ord.go ?_ | refine Run.go rfl ?_ | refine Cont.go rfl ?_ | refine OrdP.go ?_)
    refine ⟨h2, .str y, str_at _ _ _ ey, ?_⟩
    repeat (first | refine Ops.go ?_ | refine And.intro rfl ?_ | refine And.intro (Nat.le_of_ble_eq_true rfl) ?_ | refine And.intro (Int.natCast_nonneg _) ?_ | refine fun (_ : Nat) => ?_ | refine Ord.go ?_ | refine Run.go rfl ?_ | refine Cont.go rfl ?_ | refine OrdP.go ?_)
    refine ⟨by omega, .str x, str_at _ _ _ ex, ?_⟩
    repeat (first | refine Ops.go ?_ | refine And.intro rfl ?_ | refine And.intro (Nat.le_of_ble_eq_true rfl) ?_ | refine And.intro (Int.natCast_nonneg _) ?_ | refine fun (_ : Nat) => ?_ | refine Ord.go ?_ | refine Run.go rfl ?_ | refine Cont.go rfl ?_ | refine OrdP.go ?_)
    refine ⟨fun hne => ?_, fun heq => ?_⟩
    · have hne : x ≠ y := hne
      repeat (first | refine Ops.go ?_ | refine And.intro rfl ?_ | refine And.intro (Nat.le_of_ble_eq_true rfl) ?_ | refine And.intro (Int.natCast_nonneg _) ?_ | refine fun (_ : Nat) => ?_ | refine Ord.go ?_ | refine Run.go rfl ?_ | refine Cont.go rfl ?_ | refine OrdP.go ?_)
      exact ⟨_, [], FinOk.drop _ _, congrArg AV.bool (decide_eq_false (fun hb => hne (by have := hb.2 i (by omega); rw [ex, ey] at this; exact Option.some.inj this))).symm, rfl⟩
    · have heq : x = y := Classical.not_not.1 heq
      subst heq
      repeat (first | refine Ops.go ?_ | refine And.intro rfl ?_ | refine And.intro (Nat.le_of_ble_eq_true rfl) ?_ | refine And.intro (Int.natCast_nonneg _) ?_ | refine fun (_ : Nat) => ?_ | refine Ord.go ?_ | refine Run.go rfl ?_ | refine Cont.go rfl ?_ | refine OrdP.go ?_)
      refine fun r hr => ?_
      obtain rfl := add1 hr (by omega)
      repeat (first | refine Ops.go ?_ | refine And.intro rfl ?_ | refine And.intro (Nat.le_of_ble_eq_true rfl) ?_ | refine And.intro (Int.natCast_nonneg _) ?_ | refine fun (_ : Nat) => ?_ | refine Ord.go ?_ | refine Run.go rfl ?_ | refine Cont.go rfl ?_ | refine OrdP.go ?_)
      refine Cont.lp ?_
      refine ⟨w.length - (i + 1), _, 99, by omega, ?_, ⟨i + 1, rfl, by omega, fun j hj => ?_, rfl, rfl⟩⟩
      · repeat (first | exact trivial | refine ⟨.inl rfl, ?_⟩ | refine ⟨.inr rfl, ?_⟩)
      · by_cases e : j = i
        · subst e; rw [ex, ey]
        · exact hP j (by omega)
  · have h2 : ¬ (i : Int) < (w.length : Int) := h2
    repeat (first | refine Ops.go ?_ | refine And.intro rfl ?_ | refine And.intro (Nat.le_of_ble_eq_true rfl) ?_ | refine And.intro (Int.natCast_nonneg _) ?_ | refine fun (_ : Nat) => ?_ | refine Ord.go ?_ | refine Run.go rfl ?_ | refine Cont.go rfl ?_ | refine OrdP.go ?_)
    exact ⟨_, [], FinOk.drop _ _, congrArg AV.bool (decide_eq_true ⟨by omega, fun j hj => hP j (by omega)⟩).symm, rfl⟩

/-- Is a change of that kind at a place one for the watch? -/
def coversP (kd : Int) (pl : ByteArray) (k : Int) (p : ByteArray) : Prop :=
  parseE pl = 0 ∧ parseE p = 0 ∧ 1 ≤ k ∧ k ≤ 3 ∧ beginsP (namesOf p) (namesOf pl) ∧
    ((kd = 1 ∧ (namesOf p).length = (namesOf pl).length) ∨ (kd = 2 ∧ k ≠ 2 ∧ (namesOf p).length ≤ (namesOf pl).length + 1) ∨ kd = 3)
noncomputable instance (kd : Int) (pl : ByteArray) (k : Int) (p : ByteArray) : Decidable (coversP kd pl k p) := Classical.propDecidable _

set_option maxHeartbeats 8000000 in
theorem covers_spec (kd : Int) (pl : ByteArray) (k : Int) (p : ByteArray) : FnSpec C 31 [.int .i64 kd, .str pl, .int .i64 k, .str p] [] (fun r L' => r = .bool (decide (coversP kd pl k p)) ∧ L' = []) := by
  have no : ¬ coversP kd pl k p → AV.bool false = AV.bool (decide (coversP kd pl k p)) := fun h => congrArg AV.bool (decide_eq_false h).symm
  have yes : coversP kd pl k p → AV.bool true = AV.bool (decide (coversP kd pl k p)) := fun h => congrArg AV.bool (decide_eq_true h).symm
  refine FnSpec.start C_ok Tryz.func31 rfl rfl Tryz.ntmps31 ?_
  repeat (first | refine Ops.go ?_ | refine And.intro rfl ?_ | refine And.intro (Nat.le_of_ble_eq_true rfl) ?_ | refine And.intro (Int.natCast_nonneg _) ?_ | refine fun (_ : Nat) => ?_ | refine Ord.go ?_ | refine Run.go rfl ?_ | refine Cont.go rfl ?_ | refine OrdP.go ?_)
  refine ACall.pure _ (parse_spec pl) ?_
  rintro r L' (⟨h, rfl, rfl⟩ | ⟨h, hn, rfl, rfl⟩ | ⟨h, hn, g, rfl, rfl⟩)
  · refine ⟨_, Sub.refl _, ?_⟩
    repeat (first | refine Ops.go ?_ | refine And.intro rfl ?_ | refine And.intro (Nat.le_of_ble_eq_true rfl) ?_ | refine And.intro (Int.natCast_nonneg _) ?_ | refine fun (_ : Nat) => ?_ | refine Ord.go ?_ | refine Run.go rfl ?_ | refine Cont.go rfl ?_ | refine OrdP.go ?_)
    refine ACall.pure _ (parse_spec p) ?_
    rintro r L' (⟨h', rfl, rfl⟩ | ⟨h', hn', rfl, rfl⟩ | ⟨h', hn', g', rfl, rfl⟩)
    · refine ⟨_, Sub.refl _, ?_⟩
      repeat (first | refine Ops.go ?_ | refine And.intro rfl ?_ | refine And.intro (Nat.le_of_ble_eq_true rfl) ?_ | refine And.intro (Int.natCast_nonneg _) ?_ | refine fun (_ : Nat) => ?_ | refine Ord.go ?_ | refine Run.go rfl ?_ | refine Cont.go rfl ?_ | refine OrdP.go ?_)
      refine ⟨fun _ => ?_, fun e => absurd h e⟩
      repeat (first | refine Ops.go ?_ | refine And.intro rfl ?_ | refine And.intro (Nat.le_of_ble_eq_true rfl) ?_ | refine And.intro (Int.natCast_nonneg _) ?_ | refine fun (_ : Nat) => ?_ | refine Ord.go ?_ | refine Run.go rfl ?_ | refine Cont.go rfl ?_ | refine OrdP.go ?_)
      exact ⟨_, [], FinOk.drop _ _, no (fun hc => h hc.1), rfl⟩
    · refine ⟨_, Sub.refl _, ?_⟩
      repeat (first | refine Ops.go ?_ | refine And.intro rfl ?_ | refine And.intro (Nat.le_of_ble_eq_true rfl) ?_ | refine And.intro (Int.natCast_nonneg _) ?_ | refine fun (_ : Nat) => ?_ | refine Ord.go ?_ | refine Run.go rfl ?_ | refine Cont.go rfl ?_ | refine OrdP.go ?_)
      refine ⟨fun _ => ?_, fun e => absurd h e⟩
      repeat (first | refine Ops.go ?_ | refine And.intro rfl ?_ | refine And.intro (Nat.le_of_ble_eq_true rfl) ?_ | refine And.intro (Int.natCast_nonneg _) ?_ | refine fun (_ : Nat) => ?_ | refine Ord.go ?_ | refine Run.go rfl ?_ | refine Cont.go rfl ?_ | refine OrdP.go ?_)
      exact ⟨_, [], FinOk.drop _ _, no (fun hc => h hc.1), rfl⟩
    · refine ⟨_, Sub.refl _, ?_⟩
      repeat (first | refine Ops.go ?_ | refine And.intro rfl ?_ | refine And.intro (Nat.le_of_ble_eq_true rfl) ?_ | refine And.intro (Int.natCast_nonneg _) ?_ | refine fun (_ : Nat) => ?_ | refine Ord.go ?_ | refine Run.go rfl ?_ | refine Cont.go rfl ?_ | refine OrdP.go ?_)
      refine ⟨fun _ => ?_, fun e => absurd h e⟩
      repeat (first | refine Ops.go ?_ | refine And.intro rfl ?_ | refine And.intro (Nat.le_of_ble_eq_true rfl) ?_ | refine And.intro (Int.natCast_nonneg _) ?_ | refine fun (_ : Nat) => ?_ | refine Ord.go ?_ | refine Run.go rfl ?_ | refine Cont.go rfl ?_ | refine OrdP.go ?_)
      exact ⟨_, [], FinOk.drop _ _, no (fun hc => h hc.1), rfl⟩
  · refine ⟨_, Sub.refl _, ?_⟩
    repeat (first | refine Ops.go ?_ | refine And.intro rfl ?_ | refine And.intro (Nat.le_of_ble_eq_true rfl) ?_ | refine And.intro (Int.natCast_nonneg _) ?_ | refine fun (_ : Nat) => ?_ | refine Ord.go ?_ | refine Run.go rfl ?_ | refine Cont.go rfl ?_ | refine OrdP.go ?_)
    refine ACall.pure _ (parse_spec p) ?_
    rintro r L' (⟨h', rfl, rfl⟩ | ⟨h', hn', rfl, rfl⟩ | ⟨h', hn', g', rfl, rfl⟩)
    · refine ⟨_, Sub.refl _, ?_⟩
      repeat (first | refine Ops.go ?_ | refine And.intro rfl ?_ | refine And.intro (Nat.le_of_ble_eq_true rfl) ?_ | refine And.intro (Int.natCast_nonneg _) ?_ | refine fun (_ : Nat) => ?_ | refine Ord.go ?_ | refine Run.go rfl ?_ | refine Cont.go rfl ?_ | refine OrdP.go ?_)
      refine ⟨fun e => absurd rfl e, fun _ => ?_⟩
      repeat (first | refine Ops.go ?_ | refine And.intro rfl ?_ | refine And.intro (Nat.le_of_ble_eq_true rfl) ?_ | refine And.intro (Int.natCast_nonneg _) ?_ | refine fun (_ : Nat) => ?_ | refine Ord.go ?_ | refine Run.go rfl ?_ | refine Cont.go rfl ?_ | refine OrdP.go ?_)
      refine ⟨fun _ => ?_, fun e => absurd h' e⟩
      repeat (first | refine Ops.go ?_ | refine And.intro rfl ?_ | refine And.intro (Nat.le_of_ble_eq_true rfl) ?_ | refine And.intro (Int.natCast_nonneg _) ?_ | refine fun (_ : Nat) => ?_ | refine Ord.go ?_ | refine Run.go rfl ?_ | refine Cont.go rfl ?_ | refine OrdP.go ?_)
      exact ⟨_, [], FinOk.drop _ _, no (fun hc => h' hc.2.1), rfl⟩
    · refine ⟨_, Sub.refl _, ?_⟩
      repeat (first | refine Ops.go ?_ | refine And.intro rfl ?_ | refine And.intro (Nat.le_of_ble_eq_true rfl) ?_ | refine And.intro (Int.natCast_nonneg _) ?_ | refine fun (_ : Nat) => ?_ | refine Ord.go ?_ | refine Run.go rfl ?_ | refine Cont.go rfl ?_ | refine OrdP.go ?_)
      refine ⟨fun e => absurd rfl e, fun _ => ?_⟩
      repeat (first | refine Ops.go ?_ | refine And.intro rfl ?_ | refine And.intro (Nat.le_of_ble_eq_true rfl) ?_ | refine And.intro (Int.natCast_nonneg _) ?_ | refine fun (_ : Nat) => ?_ | refine Ord.go ?_ | refine Run.go rfl ?_ | refine Cont.go rfl ?_ | refine OrdP.go ?_)
      refine ⟨fun e => absurd rfl e, fun _ => ?_⟩
      repeat (first | refine Ops.go ?_ | refine And.intro rfl ?_ | refine And.intro (Nat.le_of_ble_eq_true rfl) ?_ | refine And.intro (Int.natCast_nonneg _) ?_ | refine fun (_ : Nat) => ?_ | refine Ord.go ?_ | refine Run.go rfl ?_ | refine Cont.go rfl ?_ | refine OrdP.go ?_)
      refine ⟨fun hk => ?_, fun hk => ?_⟩
      · have hk : k < 1 := hk
        repeat (first | refine Ops.go ?_ | refine And.intro rfl ?_ | refine And.intro (Nat.le_of_ble_eq_true rfl) ?_ | refine And.intro (Int.natCast_nonneg _) ?_ | refine fun (_ : Nat) => ?_ | refine Ord.go ?_ | refine Run.go rfl ?_ | refine Cont.go rfl ?_ | refine OrdP.go ?_)
        exact ⟨_, [], FinOk.drop _ _, no (fun hc => by have := hc.2.2.1; omega), rfl⟩
      have hk1 : ¬ k < 1 := hk
      repeat (first | refine Ops.go ?_ | refine And.intro rfl ?_ | refine And.intro (Nat.le_of_ble_eq_true rfl) ?_ | refine And.intro (Int.natCast_nonneg _) ?_ | refine fun (_ : Nat) => ?_ | refine Ord.go ?_ | refine Run.go rfl ?_ | refine Cont.go rfl ?_ | refine OrdP.go ?_)
      refine ⟨fun hk => ?_, fun hk => ?_⟩
      · have hk : (3 : Int) < k := hk
        repeat (first | refine Ops.go ?_ | refine And.intro rfl ?_ | refine And.intro (Nat.le_of_ble_eq_true rfl) ?_ | refine And.intro (Int.natCast_nonneg _) ?_ | refine fun (_ : Nat) => ?_ | refine Ord.go ?_ | refine Run.go rfl ?_ | refine Cont.go rfl ?_ | refine OrdP.go ?_)
        exact ⟨_, [], FinOk.drop _ _, no (fun hc => by have := hc.2.2.2.1; omega), rfl⟩
      have hk3 : ¬ (3 : Int) < k := hk
      repeat (first | refine Ops.go ?_ | refine And.intro rfl ?_ | refine And.intro (Nat.le_of_ble_eq_true rfl) ?_ | refine And.intro (Int.natCast_nonneg _) ?_ | refine fun (_ : Nat) => ?_ | refine Ord.go ?_ | refine Run.go rfl ?_ | refine Cont.go rfl ?_ | refine OrdP.go ?_)
      by_cases hb : beginsP ([] : List ByteArray) ([] : List ByteArray)
      case neg =>
        have c1 := begins_spec ([] : List ByteArray) ([] : List ByteArray) (by simp) (by simp)
        rw [decide_eq_false hb] at c1
        refine ACall.ret_lend (.two (.nils 1) (.nils 1)) c1 rfl ?_
        repeat (first | refine Ops.go ?_ | refine And.intro rfl ?_ | refine And.intro (Nat.le_of_ble_eq_true rfl) ?_ | refine And.intro (Int.natCast_nonneg _) ?_ | refine fun (_ : Nat) => ?_ | refine Ord.go ?_ | refine Run.go rfl ?_ | refine Cont.go rfl ?_ | refine OrdP.go ?_)
        exact ⟨_, [], FinOk.drop _ _, no (fun hc => hb (by have := hc.2.2.2.2.1; rw [hn', hn] at this; exact this)), rfl⟩
      have c1 := begins_spec ([] : List ByteArray) ([] : List ByteArray) (by simp) (by simp)
      rw [decide_eq_true hb] at c1
      refine ACall.ret_lend (.two (.nils 1) (.nils 1)) c1 rfl ?_
      repeat (first | refine Ops.go ?_ | refine And.intro rfl ?_ | refine And.intro (Nat.le_of_ble_eq_true rfl) ?_ | refine And.intro (Int.natCast_nonneg _) ?_ | refine fun (_ : Nat) => ?_ | refine Ord.go ?_ | refine Run.go rfl ?_ | refine Cont.go rfl ?_ | refine OrdP.go ?_)
      refine ⟨fun hd => ?_, fun hd => ?_⟩
      · have hd : kd = 1 := hd
        repeat (first | refine Ops.go ?_ | refine And.intro rfl ?_ | refine And.intro (Nat.le_of_ble_eq_true rfl) ?_ | refine And.intro (Int.natCast_nonneg _) ?_ | refine fun (_ : Nat) => ?_ | refine Ord.go ?_ | refine Run.go rfl ?_ | refine Cont.go rfl ?_ | refine OrdP.go ?_)
        refine ⟨fun hl => ?_, fun hl => ?_⟩
        · have hl : (0 : Int) = (0 : Int) := hl
          repeat (first | refine Ops.go ?_ | refine And.intro rfl ?_ | refine And.intro (Nat.le_of_ble_eq_true rfl) ?_ | refine And.intro (Int.natCast_nonneg _) ?_ | refine fun (_ : Nat) => ?_ | refine Ord.go ?_ | refine Run.go rfl ?_ | refine Cont.go rfl ?_ | refine OrdP.go ?_)
          exact ⟨_, [], FinOk.drop _ _, yes (⟨h, h', by omega, by omega, by rw [hn', hn]; exact hb, .inl ⟨hd, by rw [hn', hn] <;> first | omega | (simp only [List.length_nil]; omega)⟩⟩), rfl⟩
        · have hl : ¬ (0 : Int) = (0 : Int) := hl
          repeat (first | refine Ops.go ?_ | refine And.intro rfl ?_ | refine And.intro (Nat.le_of_ble_eq_true rfl) ?_ | refine And.intro (Int.natCast_nonneg _) ?_ | refine fun (_ : Nat) => ?_ | refine Ord.go ?_ | refine Run.go rfl ?_ | refine Cont.go rfl ?_ | refine OrdP.go ?_)
          exact ⟨_, [], FinOk.drop _ _, no (fun hc => by rcases hc.2.2.2.2.2 with h | h | h; have := h.2; rw [hn', hn] at this; (first | omega | (simp only [List.length_nil] at this; omega)); have := h.1; omega; omega), rfl⟩
      have hd1 : ¬ kd = 1 := hd
      repeat (first | refine Ops.go ?_ | refine And.intro rfl ?_ | refine And.intro (Nat.le_of_ble_eq_true rfl) ?_ | refine And.intro (Int.natCast_nonneg _) ?_ | refine fun (_ : Nat) => ?_ | refine Ord.go ?_ | refine Run.go rfl ?_ | refine Cont.go rfl ?_ | refine OrdP.go ?_)
      refine ⟨fun hd => ?_, fun hd => ?_⟩
      · have hd : kd = 2 := hd
        repeat (first | refine Ops.go ?_ | refine And.intro rfl ?_ | refine And.intro (Nat.le_of_ble_eq_true rfl) ?_ | refine And.intro (Int.natCast_nonneg _) ?_ | refine fun (_ : Nat) => ?_ | refine Ord.go ?_ | refine Run.go rfl ?_ | refine Cont.go rfl ?_ | refine OrdP.go ?_)
        refine ⟨fun hs => ?_, fun hs => ?_⟩
        · have hs : k ≠ 2 := hs
          repeat (first | refine Ops.go ?_ | refine And.intro rfl ?_ | refine And.intro (Nat.le_of_ble_eq_true rfl) ?_ | refine And.intro (Int.natCast_nonneg _) ?_ | refine fun (_ : Nat) => ?_ | refine Ord.go ?_ | refine Run.go rfl ?_ | refine Cont.go rfl ?_ | refine OrdP.go ?_)
          refine fun r hr => ?_
          obtain rfl : r = ((0 + 1 : Nat) : Int) := by rw [hr, IntKind.wrap_i64]; omega
          repeat (first | refine Ops.go ?_ | refine And.intro rfl ?_ | refine And.intro (Nat.le_of_ble_eq_true rfl) ?_ | refine And.intro (Int.natCast_nonneg _) ?_ | refine fun (_ : Nat) => ?_ | refine Ord.go ?_ | refine Run.go rfl ?_ | refine Cont.go rfl ?_ | refine OrdP.go ?_)
          refine ⟨fun hl => ?_, fun hl => ?_⟩
          · have hl : (0 : Int) ≤ ((0 + 1 : Nat) : Int) := hl
            repeat (first | refine Ops.go ?_ | refine And.intro rfl ?_ | refine And.intro (Nat.le_of_ble_eq_true rfl) ?_ | refine And.intro (Int.natCast_nonneg _) ?_ | refine fun (_ : Nat) => ?_ | refine Ord.go ?_ | refine Run.go rfl ?_ | refine Cont.go rfl ?_ | refine OrdP.go ?_)
            exact ⟨_, [], FinOk.drop _ _, yes (⟨h, h', by omega, by omega, by rw [hn', hn]; exact hb, .inr (.inl ⟨hd, hs, by rw [hn', hn] <;> first | omega | (simp only [List.length_nil]; omega)⟩)⟩), rfl⟩
          · have hl : ¬ (0 : Int) ≤ ((0 + 1 : Nat) : Int) := hl
            repeat (first | refine Ops.go ?_ | refine And.intro rfl ?_ | refine And.intro (Nat.le_of_ble_eq_true rfl) ?_ | refine And.intro (Int.natCast_nonneg _) ?_ | refine fun (_ : Nat) => ?_ | refine Ord.go ?_ | refine Run.go rfl ?_ | refine Cont.go rfl ?_ | refine OrdP.go ?_)
            exact ⟨_, [], FinOk.drop _ _, no (fun hc => by rcases hc.2.2.2.2.2 with h | h | h; have := h.1; omega; have := h.2.2; rw [hn', hn] at this; (first | omega | (simp only [List.length_nil] at this; omega)); omega), rfl⟩
        · have hs : k = 2 := Classical.not_not.1 hs
          repeat (first | refine Ops.go ?_ | refine And.intro rfl ?_ | refine And.intro (Nat.le_of_ble_eq_true rfl) ?_ | refine And.intro (Int.natCast_nonneg _) ?_ | refine fun (_ : Nat) => ?_ | refine Ord.go ?_ | refine Run.go rfl ?_ | refine Cont.go rfl ?_ | refine OrdP.go ?_)
          exact ⟨_, [], FinOk.drop _ _, no (fun hc => by rcases hc.2.2.2.2.2 with h | h | h; have := h.1; omega; exact h.2.1 hs; omega), rfl⟩
      have hd2 : ¬ kd = 2 := hd
      repeat (first | refine Ops.go ?_ | refine And.intro rfl ?_ | refine And.intro (Nat.le_of_ble_eq_true rfl) ?_ | refine And.intro (Int.natCast_nonneg _) ?_ | refine fun (_ : Nat) => ?_ | refine Ord.go ?_ | refine Run.go rfl ?_ | refine Cont.go rfl ?_ | refine OrdP.go ?_)
      refine ⟨fun hd => ?_, fun hd => ?_⟩
      · have hd : kd = 3 := hd
        repeat (first | refine Ops.go ?_ | refine And.intro rfl ?_ | refine And.intro (Nat.le_of_ble_eq_true rfl) ?_ | refine And.intro (Int.natCast_nonneg _) ?_ | refine fun (_ : Nat) => ?_ | refine Ord.go ?_ | refine Run.go rfl ?_ | refine Cont.go rfl ?_ | refine OrdP.go ?_)
        exact ⟨_, [], FinOk.drop _ _, yes (⟨h, h', by omega, by omega, by rw [hn', hn]; exact hb, .inr (.inr hd)⟩), rfl⟩
      · have hd : ¬ kd = 3 := hd
        repeat (first | refine Ops.go ?_ | refine And.intro rfl ?_ | refine And.intro (Nat.le_of_ble_eq_true rfl) ?_ | refine And.intro (Int.natCast_nonneg _) ?_ | refine fun (_ : Nat) => ?_ | refine Ord.go ?_ | refine Run.go rfl ?_ | refine Cont.go rfl ?_ | refine OrdP.go ?_)
        exact ⟨_, [], FinOk.drop _ _, no (fun hc => by rcases hc.2.2.2.2.2 with h | h | h; have := h.1; omega; have := h.1; omega; omega), rfl⟩
    · refine ⟨_, Sub.refl _, ?_⟩
      repeat (first | refine Ops.go ?_ | refine And.intro rfl ?_ | refine And.intro (Nat.le_of_ble_eq_true rfl) ?_ | refine And.intro (Int.natCast_nonneg _) ?_ | refine fun (_ : Nat) => ?_ | refine Ord.go ?_ | refine Run.go rfl ?_ | refine Cont.go rfl ?_ | refine OrdP.go ?_)
      refine ⟨fun e => absurd rfl e, fun _ => ?_⟩
      repeat (first | refine Ops.go ?_ | refine And.intro rfl ?_ | refine And.intro (Nat.le_of_ble_eq_true rfl) ?_ | refine And.intro (Int.natCast_nonneg _) ?_ | refine fun (_ : Nat) => ?_ | refine Ord.go ?_ | refine Run.go rfl ?_ | refine Cont.go rfl ?_ | refine OrdP.go ?_)
      refine ⟨fun e => absurd rfl e, fun _ => ?_⟩
      repeat (first | refine Ops.go ?_ | refine And.intro rfl ?_ | refine And.intro (Nat.le_of_ble_eq_true rfl) ?_ | refine And.intro (Int.natCast_nonneg _) ?_ | refine fun (_ : Nat) => ?_ | refine Ord.go ?_ | refine Run.go rfl ?_ | refine Cont.go rfl ?_ | refine OrdP.go ?_)
      refine ⟨fun hk => ?_, fun hk => ?_⟩
      · have hk : k < 1 := hk
        repeat (first | refine Ops.go ?_ | refine And.intro rfl ?_ | refine And.intro (Nat.le_of_ble_eq_true rfl) ?_ | refine And.intro (Int.natCast_nonneg _) ?_ | refine fun (_ : Nat) => ?_ | refine Ord.go ?_ | refine Run.go rfl ?_ | refine Cont.go rfl ?_ | refine OrdP.go ?_)
        exact ⟨_, [], FinOk.drop _ _, no (fun hc => by have := hc.2.2.1; omega), rfl⟩
      have hk1 : ¬ k < 1 := hk
      repeat (first | refine Ops.go ?_ | refine And.intro rfl ?_ | refine And.intro (Nat.le_of_ble_eq_true rfl) ?_ | refine And.intro (Int.natCast_nonneg _) ?_ | refine fun (_ : Nat) => ?_ | refine Ord.go ?_ | refine Run.go rfl ?_ | refine Cont.go rfl ?_ | refine OrdP.go ?_)
      refine ⟨fun hk => ?_, fun hk => ?_⟩
      · have hk : (3 : Int) < k := hk
        repeat (first | refine Ops.go ?_ | refine And.intro rfl ?_ | refine And.intro (Nat.le_of_ble_eq_true rfl) ?_ | refine And.intro (Int.natCast_nonneg _) ?_ | refine fun (_ : Nat) => ?_ | refine Ord.go ?_ | refine Run.go rfl ?_ | refine Cont.go rfl ?_ | refine OrdP.go ?_)
        exact ⟨_, [], FinOk.drop _ _, no (fun hc => by have := hc.2.2.2.1; omega), rfl⟩
      have hk3 : ¬ (3 : Int) < k := hk
      repeat (first | refine Ops.go ?_ | refine And.intro rfl ?_ | refine And.intro (Nat.le_of_ble_eq_true rfl) ?_ | refine And.intro (Int.natCast_nonneg _) ?_ | refine fun (_ : Nat) => ?_ | refine Ord.go ?_ | refine Run.go rfl ?_ | refine Cont.go rfl ?_ | refine OrdP.go ?_)
      by_cases hb : beginsP (namesOf p) ([] : List ByteArray)
      case neg =>
        have c1 := begins_spec (namesOf p) ([] : List ByteArray) (by omega) (by simp)
        rw [decide_eq_false hb] at c1
        refine ACall.ret_lend (.two (.row 0 g' _ (namesOf p).length 9 1 ((namesOf p).map .str) rfl (by rw [List.length_map]; exact Nat.le_refl _)) (.nils 1)) c1 rfl ?_
        repeat (first | refine Ops.go ?_ | refine And.intro rfl ?_ | refine And.intro (Nat.le_of_ble_eq_true rfl) ?_ | refine And.intro (Int.natCast_nonneg _) ?_ | refine fun (_ : Nat) => ?_ | refine Ord.go ?_ | refine Run.go rfl ?_ | refine Cont.go rfl ?_ | refine OrdP.go ?_)
        exact ⟨_, [], FinOk.drop _ _, no (fun hc => hb (by have := hc.2.2.2.2.1; rw [(rfl : namesOf p = namesOf p), hn] at this; exact this)), rfl⟩
      have c1 := begins_spec (namesOf p) ([] : List ByteArray) (by omega) (by simp)
      rw [decide_eq_true hb] at c1
      refine ACall.ret_lend (.two (.row 0 g' _ (namesOf p).length 9 1 ((namesOf p).map .str) rfl (by rw [List.length_map]; exact Nat.le_refl _)) (.nils 1)) c1 rfl ?_
      repeat (first | refine Ops.go ?_ | refine And.intro rfl ?_ | refine And.intro (Nat.le_of_ble_eq_true rfl) ?_ | refine And.intro (Int.natCast_nonneg _) ?_ | refine fun (_ : Nat) => ?_ | refine Ord.go ?_ | refine Run.go rfl ?_ | refine Cont.go rfl ?_ | refine OrdP.go ?_)
      refine ⟨fun hd => ?_, fun hd => ?_⟩
      · have hd : kd = 1 := hd
        repeat (first | refine Ops.go ?_ | refine And.intro rfl ?_ | refine And.intro (Nat.le_of_ble_eq_true rfl) ?_ | refine And.intro (Int.natCast_nonneg _) ?_ | refine fun (_ : Nat) => ?_ | refine Ord.go ?_ | refine Run.go rfl ?_ | refine Cont.go rfl ?_ | refine OrdP.go ?_)
        refine ⟨fun hl => ?_, fun hl => ?_⟩
        · have hl : ((namesOf p).length : Int) = (0 : Int) := hl
          repeat (first | refine Ops.go ?_ | refine And.intro rfl ?_ | refine And.intro (Nat.le_of_ble_eq_true rfl) ?_ | refine And.intro (Int.natCast_nonneg _) ?_ | refine fun (_ : Nat) => ?_ | refine Ord.go ?_ | refine Run.go rfl ?_ | refine Cont.go rfl ?_ | refine OrdP.go ?_)
          exact ⟨_, [], FinOk.drop _ _, yes (⟨h, h', by omega, by omega, by rw [(rfl : namesOf p = namesOf p), hn]; exact hb, .inl ⟨hd, by rw [(rfl : namesOf p = namesOf p), hn] <;> first | omega | (simp only [List.length_nil]; omega)⟩⟩), rfl⟩
        · have hl : ¬ ((namesOf p).length : Int) = (0 : Int) := hl
          repeat (first | refine Ops.go ?_ | refine And.intro rfl ?_ | refine And.intro (Nat.le_of_ble_eq_true rfl) ?_ | refine And.intro (Int.natCast_nonneg _) ?_ | refine fun (_ : Nat) => ?_ | refine Ord.go ?_ | refine Run.go rfl ?_ | refine Cont.go rfl ?_ | refine OrdP.go ?_)
          exact ⟨_, [], FinOk.drop _ _, no (fun hc => by rcases hc.2.2.2.2.2 with h | h | h; have := h.2; rw [(rfl : namesOf p = namesOf p), hn] at this; (first | omega | (simp only [List.length_nil] at this; omega)); have := h.1; omega; omega), rfl⟩
      have hd1 : ¬ kd = 1 := hd
      repeat (first | refine Ops.go ?_ | refine And.intro rfl ?_ | refine And.intro (Nat.le_of_ble_eq_true rfl) ?_ | refine And.intro (Int.natCast_nonneg _) ?_ | refine fun (_ : Nat) => ?_ | refine Ord.go ?_ | refine Run.go rfl ?_ | refine Cont.go rfl ?_ | refine OrdP.go ?_)
      refine ⟨fun hd => ?_, fun hd => ?_⟩
      · have hd : kd = 2 := hd
        repeat (first | refine Ops.go ?_ | refine And.intro rfl ?_ | refine And.intro (Nat.le_of_ble_eq_true rfl) ?_ | refine And.intro (Int.natCast_nonneg _) ?_ | refine fun (_ : Nat) => ?_ | refine Ord.go ?_ | refine Run.go rfl ?_ | refine Cont.go rfl ?_ | refine OrdP.go ?_)
        refine ⟨fun hs => ?_, fun hs => ?_⟩
        · have hs : k ≠ 2 := hs
          repeat (first | refine Ops.go ?_ | refine And.intro rfl ?_ | refine And.intro (Nat.le_of_ble_eq_true rfl) ?_ | refine And.intro (Int.natCast_nonneg _) ?_ | refine fun (_ : Nat) => ?_ | refine Ord.go ?_ | refine Run.go rfl ?_ | refine Cont.go rfl ?_ | refine OrdP.go ?_)
          refine fun r hr => ?_
          obtain rfl : r = ((0 + 1 : Nat) : Int) := by rw [hr, IntKind.wrap_i64]; omega
          repeat (first | refine Ops.go ?_ | refine And.intro rfl ?_ | refine And.intro (Nat.le_of_ble_eq_true rfl) ?_ | refine And.intro (Int.natCast_nonneg _) ?_ | refine fun (_ : Nat) => ?_ | refine Ord.go ?_ | refine Run.go rfl ?_ | refine Cont.go rfl ?_ | refine OrdP.go ?_)
          refine ⟨fun hl => ?_, fun hl => ?_⟩
          · have hl : ((namesOf p).length : Int) ≤ ((0 + 1 : Nat) : Int) := hl
            repeat (first | refine Ops.go ?_ | refine And.intro rfl ?_ | refine And.intro (Nat.le_of_ble_eq_true rfl) ?_ | refine And.intro (Int.natCast_nonneg _) ?_ | refine fun (_ : Nat) => ?_ | refine Ord.go ?_ | refine Run.go rfl ?_ | refine Cont.go rfl ?_ | refine OrdP.go ?_)
            exact ⟨_, [], FinOk.drop _ _, yes (⟨h, h', by omega, by omega, by rw [(rfl : namesOf p = namesOf p), hn]; exact hb, .inr (.inl ⟨hd, hs, by rw [(rfl : namesOf p = namesOf p), hn] <;> first | omega | (simp only [List.length_nil]; omega)⟩)⟩), rfl⟩
          · have hl : ¬ ((namesOf p).length : Int) ≤ ((0 + 1 : Nat) : Int) := hl
            repeat (first | refine Ops.go ?_ | refine And.intro rfl ?_ | refine And.intro (Nat.le_of_ble_eq_true rfl) ?_ | refine And.intro (Int.natCast_nonneg _) ?_ | refine fun (_ : Nat) => ?_ | refine Ord.go ?_ | refine Run.go rfl ?_ | refine Cont.go rfl ?_ | refine OrdP.go ?_)
            exact ⟨_, [], FinOk.drop _ _, no (fun hc => by rcases hc.2.2.2.2.2 with h | h | h; have := h.1; omega; have := h.2.2; rw [(rfl : namesOf p = namesOf p), hn] at this; (first | omega | (simp only [List.length_nil] at this; omega)); omega), rfl⟩
        · have hs : k = 2 := Classical.not_not.1 hs
          repeat (first | refine Ops.go ?_ | refine And.intro rfl ?_ | refine And.intro (Nat.le_of_ble_eq_true rfl) ?_ | refine And.intro (Int.natCast_nonneg _) ?_ | refine fun (_ : Nat) => ?_ | refine Ord.go ?_ | refine Run.go rfl ?_ | refine Cont.go rfl ?_ | refine OrdP.go ?_)
          exact ⟨_, [], FinOk.drop _ _, no (fun hc => by rcases hc.2.2.2.2.2 with h | h | h; have := h.1; omega; exact h.2.1 hs; omega), rfl⟩
      have hd2 : ¬ kd = 2 := hd
      repeat (first | refine Ops.go ?_ | refine And.intro rfl ?_ | refine And.intro (Nat.le_of_ble_eq_true rfl) ?_ | refine And.intro (Int.natCast_nonneg _) ?_ | refine fun (_ : Nat) => ?_ | refine Ord.go ?_ | refine Run.go rfl ?_ | refine Cont.go rfl ?_ | refine OrdP.go ?_)
      refine ⟨fun hd => ?_, fun hd => ?_⟩
      · have hd : kd = 3 := hd
        repeat (first | refine Ops.go ?_ | refine And.intro rfl ?_ | refine And.intro (Nat.le_of_ble_eq_true rfl) ?_ | refine And.intro (Int.natCast_nonneg _) ?_ | refine fun (_ : Nat) => ?_ | refine Ord.go ?_ | refine Run.go rfl ?_ | refine Cont.go rfl ?_ | refine OrdP.go ?_)
        exact ⟨_, [], FinOk.drop _ _, yes (⟨h, h', by omega, by omega, by rw [(rfl : namesOf p = namesOf p), hn]; exact hb, .inr (.inr hd)⟩), rfl⟩
      · have hd : ¬ kd = 3 := hd
        repeat (first | refine Ops.go ?_ | refine And.intro rfl ?_ | refine And.intro (Nat.le_of_ble_eq_true rfl) ?_ | refine And.intro (Int.natCast_nonneg _) ?_ | refine fun (_ : Nat) => ?_ | refine Ord.go ?_ | refine Run.go rfl ?_ | refine Cont.go rfl ?_ | refine OrdP.go ?_)
        exact ⟨_, [], FinOk.drop _ _, no (fun hc => by rcases hc.2.2.2.2.2 with h | h | h; have := h.1; omega; have := h.1; omega; omega), rfl⟩
  · refine ⟨_, Sub.refl _, ?_⟩
    repeat (first | refine Ops.go ?_ | refine And.intro rfl ?_ | refine And.intro (Nat.le_of_ble_eq_true rfl) ?_ | refine And.intro (Int.natCast_nonneg _) ?_ | refine fun (_ : Nat) => ?_ | refine Ord.go ?_ | refine Run.go rfl ?_ | refine Cont.go rfl ?_ | refine OrdP.go ?_)
    refine ACall.pure _ (parse_spec p) ?_
    rintro r L' (⟨h', rfl, rfl⟩ | ⟨h', hn', rfl, rfl⟩ | ⟨h', hn', g', rfl, rfl⟩)
    · refine ⟨_, Sub.refl _, ?_⟩
      repeat (first | refine Ops.go ?_ | refine And.intro rfl ?_ | refine And.intro (Nat.le_of_ble_eq_true rfl) ?_ | refine And.intro (Int.natCast_nonneg _) ?_ | refine fun (_ : Nat) => ?_ | refine Ord.go ?_ | refine Run.go rfl ?_ | refine Cont.go rfl ?_ | refine OrdP.go ?_)
      refine ⟨fun e => absurd rfl e, fun _ => ?_⟩
      repeat (first | refine Ops.go ?_ | refine And.intro rfl ?_ | refine And.intro (Nat.le_of_ble_eq_true rfl) ?_ | refine And.intro (Int.natCast_nonneg _) ?_ | refine fun (_ : Nat) => ?_ | refine Ord.go ?_ | refine Run.go rfl ?_ | refine Cont.go rfl ?_ | refine OrdP.go ?_)
      refine ⟨fun _ => ?_, fun e => absurd h' e⟩
      repeat (first | refine Ops.go ?_ | refine And.intro rfl ?_ | refine And.intro (Nat.le_of_ble_eq_true rfl) ?_ | refine And.intro (Int.natCast_nonneg _) ?_ | refine fun (_ : Nat) => ?_ | refine Ord.go ?_ | refine Run.go rfl ?_ | refine Cont.go rfl ?_ | refine OrdP.go ?_)
      exact ⟨_, [], FinOk.drop _ _, no (fun hc => h' hc.2.1), rfl⟩
    · refine ⟨_, Sub.refl _, ?_⟩
      repeat (first | refine Ops.go ?_ | refine And.intro rfl ?_ | refine And.intro (Nat.le_of_ble_eq_true rfl) ?_ | refine And.intro (Int.natCast_nonneg _) ?_ | refine fun (_ : Nat) => ?_ | refine Ord.go ?_ | refine Run.go rfl ?_ | refine Cont.go rfl ?_ | refine OrdP.go ?_)
      refine ⟨fun e => absurd rfl e, fun _ => ?_⟩
      repeat (first | refine Ops.go ?_ | refine And.intro rfl ?_ | refine And.intro (Nat.le_of_ble_eq_true rfl) ?_ | refine And.intro (Int.natCast_nonneg _) ?_ | refine fun (_ : Nat) => ?_ | refine Ord.go ?_ | refine Run.go rfl ?_ | refine Cont.go rfl ?_ | refine OrdP.go ?_)
      refine ⟨fun e => absurd rfl e, fun _ => ?_⟩
      repeat (first | refine Ops.go ?_ | refine And.intro rfl ?_ | refine And.intro (Nat.le_of_ble_eq_true rfl) ?_ | refine And.intro (Int.natCast_nonneg _) ?_ | refine fun (_ : Nat) => ?_ | refine Ord.go ?_ | refine Run.go rfl ?_ | refine Cont.go rfl ?_ | refine OrdP.go ?_)
      refine ⟨fun hk => ?_, fun hk => ?_⟩
      · have hk : k < 1 := hk
        repeat (first | refine Ops.go ?_ | refine And.intro rfl ?_ | refine And.intro (Nat.le_of_ble_eq_true rfl) ?_ | refine And.intro (Int.natCast_nonneg _) ?_ | refine fun (_ : Nat) => ?_ | refine Ord.go ?_ | refine Run.go rfl ?_ | refine Cont.go rfl ?_ | refine OrdP.go ?_)
        exact ⟨_, [], FinOk.drop _ _, no (fun hc => by have := hc.2.2.1; omega), rfl⟩
      have hk1 : ¬ k < 1 := hk
      repeat (first | refine Ops.go ?_ | refine And.intro rfl ?_ | refine And.intro (Nat.le_of_ble_eq_true rfl) ?_ | refine And.intro (Int.natCast_nonneg _) ?_ | refine fun (_ : Nat) => ?_ | refine Ord.go ?_ | refine Run.go rfl ?_ | refine Cont.go rfl ?_ | refine OrdP.go ?_)
      refine ⟨fun hk => ?_, fun hk => ?_⟩
      · have hk : (3 : Int) < k := hk
        repeat (first | refine Ops.go ?_ | refine And.intro rfl ?_ | refine And.intro (Nat.le_of_ble_eq_true rfl) ?_ | refine And.intro (Int.natCast_nonneg _) ?_ | refine fun (_ : Nat) => ?_ | refine Ord.go ?_ | refine Run.go rfl ?_ | refine Cont.go rfl ?_ | refine OrdP.go ?_)
        exact ⟨_, [], FinOk.drop _ _, no (fun hc => by have := hc.2.2.2.1; omega), rfl⟩
      have hk3 : ¬ (3 : Int) < k := hk
      repeat (first | refine Ops.go ?_ | refine And.intro rfl ?_ | refine And.intro (Nat.le_of_ble_eq_true rfl) ?_ | refine And.intro (Int.natCast_nonneg _) ?_ | refine fun (_ : Nat) => ?_ | refine Ord.go ?_ | refine Run.go rfl ?_ | refine Cont.go rfl ?_ | refine OrdP.go ?_)
      by_cases hb : beginsP ([] : List ByteArray) (namesOf pl)
      case neg =>
        have c1 := begins_spec ([] : List ByteArray) (namesOf pl) (by simp) (by omega)
        rw [decide_eq_false hb] at c1
        refine ACall.ret_lend (.two (.nils 1) (.row 0 g _ (namesOf pl).length 9 1 ((namesOf pl).map .str) rfl (by rw [List.length_map]; exact Nat.le_refl _))) c1 rfl ?_
        repeat (first | refine Ops.go ?_ | refine And.intro rfl ?_ | refine And.intro (Nat.le_of_ble_eq_true rfl) ?_ | refine And.intro (Int.natCast_nonneg _) ?_ | refine fun (_ : Nat) => ?_ | refine Ord.go ?_ | refine Run.go rfl ?_ | refine Cont.go rfl ?_ | refine OrdP.go ?_)
        exact ⟨_, [], FinOk.drop _ _, no (fun hc => hb (by have := hc.2.2.2.2.1; rw [hn', (rfl : namesOf pl = namesOf pl)] at this; exact this)), rfl⟩
      have c1 := begins_spec ([] : List ByteArray) (namesOf pl) (by simp) (by omega)
      rw [decide_eq_true hb] at c1
      refine ACall.ret_lend (.two (.nils 1) (.row 0 g _ (namesOf pl).length 9 1 ((namesOf pl).map .str) rfl (by rw [List.length_map]; exact Nat.le_refl _))) c1 rfl ?_
      repeat (first | refine Ops.go ?_ | refine And.intro rfl ?_ | refine And.intro (Nat.le_of_ble_eq_true rfl) ?_ | refine And.intro (Int.natCast_nonneg _) ?_ | refine fun (_ : Nat) => ?_ | refine Ord.go ?_ | refine Run.go rfl ?_ | refine Cont.go rfl ?_ | refine OrdP.go ?_)
      refine ⟨fun hd => ?_, fun hd => ?_⟩
      · have hd : kd = 1 := hd
        repeat (first | refine Ops.go ?_ | refine And.intro rfl ?_ | refine And.intro (Nat.le_of_ble_eq_true rfl) ?_ | refine And.intro (Int.natCast_nonneg _) ?_ | refine fun (_ : Nat) => ?_ | refine Ord.go ?_ | refine Run.go rfl ?_ | refine Cont.go rfl ?_ | refine OrdP.go ?_)
        refine ⟨fun hl => ?_, fun hl => ?_⟩
        · have hl : (0 : Int) = ((namesOf pl).length : Int) := hl
          repeat (first | refine Ops.go ?_ | refine And.intro rfl ?_ | refine And.intro (Nat.le_of_ble_eq_true rfl) ?_ | refine And.intro (Int.natCast_nonneg _) ?_ | refine fun (_ : Nat) => ?_ | refine Ord.go ?_ | refine Run.go rfl ?_ | refine Cont.go rfl ?_ | refine OrdP.go ?_)
          exact ⟨_, [], FinOk.drop _ _, yes (⟨h, h', by omega, by omega, by rw [hn', (rfl : namesOf pl = namesOf pl)]; exact hb, .inl ⟨hd, by rw [hn', (rfl : namesOf pl = namesOf pl)] <;> first | omega | (simp only [List.length_nil]; omega)⟩⟩), rfl⟩
        · have hl : ¬ (0 : Int) = ((namesOf pl).length : Int) := hl
          repeat (first | refine Ops.go ?_ | refine And.intro rfl ?_ | refine And.intro (Nat.le_of_ble_eq_true rfl) ?_ | refine And.intro (Int.natCast_nonneg _) ?_ | refine fun (_ : Nat) => ?_ | refine Ord.go ?_ | refine Run.go rfl ?_ | refine Cont.go rfl ?_ | refine OrdP.go ?_)
          exact ⟨_, [], FinOk.drop _ _, no (fun hc => by rcases hc.2.2.2.2.2 with h | h | h; have := h.2; rw [hn', (rfl : namesOf pl = namesOf pl)] at this; (first | omega | (simp only [List.length_nil] at this; omega)); have := h.1; omega; omega), rfl⟩
      have hd1 : ¬ kd = 1 := hd
      repeat (first | refine Ops.go ?_ | refine And.intro rfl ?_ | refine And.intro (Nat.le_of_ble_eq_true rfl) ?_ | refine And.intro (Int.natCast_nonneg _) ?_ | refine fun (_ : Nat) => ?_ | refine Ord.go ?_ | refine Run.go rfl ?_ | refine Cont.go rfl ?_ | refine OrdP.go ?_)
      refine ⟨fun hd => ?_, fun hd => ?_⟩
      · have hd : kd = 2 := hd
        repeat (first | refine Ops.go ?_ | refine And.intro rfl ?_ | refine And.intro (Nat.le_of_ble_eq_true rfl) ?_ | refine And.intro (Int.natCast_nonneg _) ?_ | refine fun (_ : Nat) => ?_ | refine Ord.go ?_ | refine Run.go rfl ?_ | refine Cont.go rfl ?_ | refine OrdP.go ?_)
        refine ⟨fun hs => ?_, fun hs => ?_⟩
        · have hs : k ≠ 2 := hs
          repeat (first | refine Ops.go ?_ | refine And.intro rfl ?_ | refine And.intro (Nat.le_of_ble_eq_true rfl) ?_ | refine And.intro (Int.natCast_nonneg _) ?_ | refine fun (_ : Nat) => ?_ | refine Ord.go ?_ | refine Run.go rfl ?_ | refine Cont.go rfl ?_ | refine OrdP.go ?_)
          refine fun r hr => ?_
          obtain rfl : r = (((namesOf pl).length + 1 : Nat) : Int) := by rw [hr, IntKind.wrap_i64]; omega
          repeat (first | refine Ops.go ?_ | refine And.intro rfl ?_ | refine And.intro (Nat.le_of_ble_eq_true rfl) ?_ | refine And.intro (Int.natCast_nonneg _) ?_ | refine fun (_ : Nat) => ?_ | refine Ord.go ?_ | refine Run.go rfl ?_ | refine Cont.go rfl ?_ | refine OrdP.go ?_)
          refine ⟨fun hl => ?_, fun hl => ?_⟩
          · have hl : (0 : Int) ≤ (((namesOf pl).length + 1 : Nat) : Int) := hl
            repeat (first | refine Ops.go ?_ | refine And.intro rfl ?_ | refine And.intro (Nat.le_of_ble_eq_true rfl) ?_ | refine And.intro (Int.natCast_nonneg _) ?_ | refine fun (_ : Nat) => ?_ | refine Ord.go ?_ | refine Run.go rfl ?_ | refine Cont.go rfl ?_ | refine OrdP.go ?_)
            exact ⟨_, [], FinOk.drop _ _, yes (⟨h, h', by omega, by omega, by rw [hn', (rfl : namesOf pl = namesOf pl)]; exact hb, .inr (.inl ⟨hd, hs, by rw [hn', (rfl : namesOf pl = namesOf pl)] <;> first | omega | (simp only [List.length_nil]; omega)⟩)⟩), rfl⟩
          · have hl : ¬ (0 : Int) ≤ (((namesOf pl).length + 1 : Nat) : Int) := hl
            repeat (first | refine Ops.go ?_ | refine And.intro rfl ?_ | refine And.intro (Nat.le_of_ble_eq_true rfl) ?_ | refine And.intro (Int.natCast_nonneg _) ?_ | refine fun (_ : Nat) => ?_ | refine Ord.go ?_ | refine Run.go rfl ?_ | refine Cont.go rfl ?_ | refine OrdP.go ?_)
            exact ⟨_, [], FinOk.drop _ _, no (fun hc => by rcases hc.2.2.2.2.2 with h | h | h; have := h.1; omega; have := h.2.2; rw [hn', (rfl : namesOf pl = namesOf pl)] at this; (first | omega | (simp only [List.length_nil] at this; omega)); omega), rfl⟩
        · have hs : k = 2 := Classical.not_not.1 hs
          repeat (first | refine Ops.go ?_ | refine And.intro rfl ?_ | refine And.intro (Nat.le_of_ble_eq_true rfl) ?_ | refine And.intro (Int.natCast_nonneg _) ?_ | refine fun (_ : Nat) => ?_ | refine Ord.go ?_ | refine Run.go rfl ?_ | refine Cont.go rfl ?_ | refine OrdP.go ?_)
          exact ⟨_, [], FinOk.drop _ _, no (fun hc => by rcases hc.2.2.2.2.2 with h | h | h; have := h.1; omega; exact h.2.1 hs; omega), rfl⟩
      have hd2 : ¬ kd = 2 := hd
      repeat (first | refine Ops.go ?_ | refine And.intro rfl ?_ | refine And.intro (Nat.le_of_ble_eq_true rfl) ?_ | refine And.intro (Int.natCast_nonneg _) ?_ | refine fun (_ : Nat) => ?_ | refine Ord.go ?_ | refine Run.go rfl ?_ | refine Cont.go rfl ?_ | refine OrdP.go ?_)
      refine ⟨fun hd => ?_, fun hd => ?_⟩
      · have hd : kd = 3 := hd
        repeat (first | refine Ops.go ?_ | refine And.intro rfl ?_ | refine And.intro (Nat.le_of_ble_eq_true rfl) ?_ | refine And.intro (Int.natCast_nonneg _) ?_ | refine fun (_ : Nat) => ?_ | refine Ord.go ?_ | refine Run.go rfl ?_ | refine Cont.go rfl ?_ | refine OrdP.go ?_)
        exact ⟨_, [], FinOk.drop _ _, yes (⟨h, h', by omega, by omega, by rw [hn', (rfl : namesOf pl = namesOf pl)]; exact hb, .inr (.inr hd)⟩), rfl⟩
      · have hd : ¬ kd = 3 := hd
        repeat (first | refine Ops.go ?_ | refine And.intro rfl ?_ | refine And.intro (Nat.le_of_ble_eq_true rfl) ?_ | refine And.intro (Int.natCast_nonneg _) ?_ | refine fun (_ : Nat) => ?_ | refine Ord.go ?_ | refine Run.go rfl ?_ | refine Cont.go rfl ?_ | refine OrdP.go ?_)
        exact ⟨_, [], FinOk.drop _ _, no (fun hc => by rcases hc.2.2.2.2.2 with h | h | h; have := h.1; omega; have := h.1; omega; omega), rfl⟩
    · refine ⟨.tuple [.sl 1 g' _ _, .int .i64 0], Sub.tuples ⟨Sub.sl _ 1 _ _ _, Sub.refl _, trivial⟩, ?_⟩
      repeat (first | refine Ops.go ?_ | refine And.intro rfl ?_ | refine And.intro (Nat.le_of_ble_eq_true rfl) ?_ | refine And.intro (Int.natCast_nonneg _) ?_ | refine fun (_ : Nat) => ?_ | refine Ord.go ?_ | refine Run.go rfl ?_ | refine Cont.go rfl ?_ | refine OrdP.go ?_)
      refine ⟨fun e => absurd rfl e, fun _ => ?_⟩
      repeat (first | refine Ops.go ?_ | refine And.intro rfl ?_ | refine And.intro (Nat.le_of_ble_eq_true rfl) ?_ | refine And.intro (Int.natCast_nonneg _) ?_ | refine fun (_ : Nat) => ?_ | refine Ord.go ?_ | refine Run.go rfl ?_ | refine Cont.go rfl ?_ | refine OrdP.go ?_)
      refine ⟨fun e => absurd rfl e, fun _ => ?_⟩
      repeat (first | refine Ops.go ?_ | refine And.intro rfl ?_ | refine And.intro (Nat.le_of_ble_eq_true rfl) ?_ | refine And.intro (Int.natCast_nonneg _) ?_ | refine fun (_ : Nat) => ?_ | refine Ord.go ?_ | refine Run.go rfl ?_ | refine Cont.go rfl ?_ | refine OrdP.go ?_)
      refine ⟨fun hk => ?_, fun hk => ?_⟩
      · have hk : k < 1 := hk
        repeat (first | refine Ops.go ?_ | refine And.intro rfl ?_ | refine And.intro (Nat.le_of_ble_eq_true rfl) ?_ | refine And.intro (Int.natCast_nonneg _) ?_ | refine fun (_ : Nat) => ?_ | refine Ord.go ?_ | refine Run.go rfl ?_ | refine Cont.go rfl ?_ | refine OrdP.go ?_)
        exact ⟨_, [], FinOk.drop _ _, no (fun hc => by have := hc.2.2.1; omega), rfl⟩
      have hk1 : ¬ k < 1 := hk
      repeat (first | refine Ops.go ?_ | refine And.intro rfl ?_ | refine And.intro (Nat.le_of_ble_eq_true rfl) ?_ | refine And.intro (Int.natCast_nonneg _) ?_ | refine fun (_ : Nat) => ?_ | refine Ord.go ?_ | refine Run.go rfl ?_ | refine Cont.go rfl ?_ | refine OrdP.go ?_)
      refine ⟨fun hk => ?_, fun hk => ?_⟩
      · have hk : (3 : Int) < k := hk
        repeat (first | refine Ops.go ?_ | refine And.intro rfl ?_ | refine And.intro (Nat.le_of_ble_eq_true rfl) ?_ | refine And.intro (Int.natCast_nonneg _) ?_ | refine fun (_ : Nat) => ?_ | refine Ord.go ?_ | refine Run.go rfl ?_ | refine Cont.go rfl ?_ | refine OrdP.go ?_)
        exact ⟨_, [], FinOk.drop _ _, no (fun hc => by have := hc.2.2.2.1; omega), rfl⟩
      have hk3 : ¬ (3 : Int) < k := hk
      repeat (first | refine Ops.go ?_ | refine And.intro rfl ?_ | refine And.intro (Nat.le_of_ble_eq_true rfl) ?_ | refine And.intro (Int.natCast_nonneg _) ?_ | refine fun (_ : Nat) => ?_ | refine Ord.go ?_ | refine Run.go rfl ?_ | refine Cont.go rfl ?_ | refine OrdP.go ?_)
      by_cases hb : beginsP (namesOf p) (namesOf pl)
      case neg =>
        have c1 := begins_spec (namesOf p) (namesOf pl) (by omega) (by omega)
        rw [decide_eq_false hb] at c1
        refine ACall.ret_lend (.two (.row 1 g' _ (namesOf p).length 9 1 ((namesOf p).map .str) rfl (by rw [List.length_map]; exact Nat.le_refl _)) (.row 0 g _ (namesOf pl).length 9 1 ((namesOf pl).map .str) rfl (by rw [List.length_map]; exact Nat.le_refl _))) c1 rfl ?_
        repeat (first | refine Ops.go ?_ | refine And.intro rfl ?_ | refine And.intro (Nat.le_of_ble_eq_true rfl) ?_ | refine And.intro (Int.natCast_nonneg _) ?_ | refine fun (_ : Nat) => ?_ | refine Ord.go ?_ | refine Run.go rfl ?_ | refine Cont.go rfl ?_ | refine OrdP.go ?_)
        exact ⟨_, [], FinOk.drop _ _, no (fun hc => hb (by have := hc.2.2.2.2.1; rw [(rfl : namesOf p = namesOf p), (rfl : namesOf pl = namesOf pl)] at this; exact this)), rfl⟩
      have c1 := begins_spec (namesOf p) (namesOf pl) (by omega) (by omega)
      rw [decide_eq_true hb] at c1
      refine ACall.ret_lend (.two (.row 1 g' _ (namesOf p).length 9 1 ((namesOf p).map .str) rfl (by rw [List.length_map]; exact Nat.le_refl _)) (.row 0 g _ (namesOf pl).length 9 1 ((namesOf pl).map .str) rfl (by rw [List.length_map]; exact Nat.le_refl _))) c1 rfl ?_
      repeat (first | refine Ops.go ?_ | refine And.intro rfl ?_ | refine And.intro (Nat.le_of_ble_eq_true rfl) ?_ | refine And.intro (Int.natCast_nonneg _) ?_ | refine fun (_ : Nat) => ?_ | refine Ord.go ?_ | refine Run.go rfl ?_ | refine Cont.go rfl ?_ | refine OrdP.go ?_)
      refine ⟨fun hd => ?_, fun hd => ?_⟩
      · have hd : kd = 1 := hd
        repeat (first | refine Ops.go ?_ | refine And.intro rfl ?_ | refine And.intro (Nat.le_of_ble_eq_true rfl) ?_ | refine And.intro (Int.natCast_nonneg _) ?_ | refine fun (_ : Nat) => ?_ | refine Ord.go ?_ | refine Run.go rfl ?_ | refine Cont.go rfl ?_ | refine OrdP.go ?_)
        refine ⟨fun hl => ?_, fun hl => ?_⟩
        · have hl : ((namesOf p).length : Int) = ((namesOf pl).length : Int) := hl
          repeat (first | refine Ops.go ?_ | refine And.intro rfl ?_ | refine And.intro (Nat.le_of_ble_eq_true rfl) ?_ | refine And.intro (Int.natCast_nonneg _) ?_ | refine fun (_ : Nat) => ?_ | refine Ord.go ?_ | refine Run.go rfl ?_ | refine Cont.go rfl ?_ | refine OrdP.go ?_)
          exact ⟨_, [], FinOk.drop _ _, yes (⟨h, h', by omega, by omega, by rw [(rfl : namesOf p = namesOf p), (rfl : namesOf pl = namesOf pl)]; exact hb, .inl ⟨hd, by rw [(rfl : namesOf p = namesOf p), (rfl : namesOf pl = namesOf pl)] <;> first | omega | (simp only [List.length_nil]; omega)⟩⟩), rfl⟩
        · have hl : ¬ ((namesOf p).length : Int) = ((namesOf pl).length : Int) := hl
          repeat (first | refine Ops.go ?_ | refine And.intro rfl ?_ | refine And.intro (Nat.le_of_ble_eq_true rfl) ?_ | refine And.intro (Int.natCast_nonneg _) ?_ | refine fun (_ : Nat) => ?_ | refine Ord.go ?_ | refine Run.go rfl ?_ | refine Cont.go rfl ?_ | refine OrdP.go ?_)
          exact ⟨_, [], FinOk.drop _ _, no (fun hc => by rcases hc.2.2.2.2.2 with h | h | h; have := h.2; rw [(rfl : namesOf p = namesOf p), (rfl : namesOf pl = namesOf pl)] at this; (first | omega | (simp only [List.length_nil] at this; omega)); have := h.1; omega; omega), rfl⟩
      have hd1 : ¬ kd = 1 := hd
      repeat (first | refine Ops.go ?_ | refine And.intro rfl ?_ | refine And.intro (Nat.le_of_ble_eq_true rfl) ?_ | refine And.intro (Int.natCast_nonneg _) ?_ | refine fun (_ : Nat) => ?_ | refine Ord.go ?_ | refine Run.go rfl ?_ | refine Cont.go rfl ?_ | refine OrdP.go ?_)
      refine ⟨fun hd => ?_, fun hd => ?_⟩
      · have hd : kd = 2 := hd
        repeat (first | refine Ops.go ?_ | refine And.intro rfl ?_ | refine And.intro (Nat.le_of_ble_eq_true rfl) ?_ | refine And.intro (Int.natCast_nonneg _) ?_ | refine fun (_ : Nat) => ?_ | refine Ord.go ?_ | refine Run.go rfl ?_ | refine Cont.go rfl ?_ | refine OrdP.go ?_)
        refine ⟨fun hs => ?_, fun hs => ?_⟩
        · have hs : k ≠ 2 := hs
          repeat (first | refine Ops.go ?_ | refine And.intro rfl ?_ | refine And.intro (Nat.le_of_ble_eq_true rfl) ?_ | refine And.intro (Int.natCast_nonneg _) ?_ | refine fun (_ : Nat) => ?_ | refine Ord.go ?_ | refine Run.go rfl ?_ | refine Cont.go rfl ?_ | refine OrdP.go ?_)
          refine fun r hr => ?_
          obtain rfl : r = (((namesOf pl).length + 1 : Nat) : Int) := by rw [hr, IntKind.wrap_i64]; omega
          repeat (first | refine Ops.go ?_ | refine And.intro rfl ?_ | refine And.intro (Nat.le_of_ble_eq_true rfl) ?_ | refine And.intro (Int.natCast_nonneg _) ?_ | refine fun (_ : Nat) => ?_ | refine Ord.go ?_ | refine Run.go rfl ?_ | refine Cont.go rfl ?_ | refine OrdP.go ?_)
          refine ⟨fun hl => ?_, fun hl => ?_⟩
          · have hl : ((namesOf p).length : Int) ≤ (((namesOf pl).length + 1 : Nat) : Int) := hl
            repeat (first | refine Ops.go ?_ | refine And.intro rfl ?_ | refine And.intro (Nat.le_of_ble_eq_true rfl) ?_ | refine And.intro (Int.natCast_nonneg _) ?_ | refine fun (_ : Nat) => ?_ | refine Ord.go ?_ | refine Run.go rfl ?_ | refine Cont.go rfl ?_ | refine OrdP.go ?_)
            exact ⟨_, [], FinOk.drop _ _, yes (⟨h, h', by omega, by omega, by rw [(rfl : namesOf p = namesOf p), (rfl : namesOf pl = namesOf pl)]; exact hb, .inr (.inl ⟨hd, hs, by rw [(rfl : namesOf p = namesOf p), (rfl : namesOf pl = namesOf pl)] <;> first | omega | (simp only [List.length_nil]; omega)⟩)⟩), rfl⟩
          · have hl : ¬ ((namesOf p).length : Int) ≤ (((namesOf pl).length + 1 : Nat) : Int) := hl
            repeat (first | refine Ops.go ?_ | refine And.intro rfl ?_ | refine And.intro (Nat.le_of_ble_eq_true rfl) ?_ | refine And.intro (Int.natCast_nonneg _) ?_ | refine fun (_ : Nat) => ?_ | refine Ord.go ?_ | refine Run.go rfl ?_ | refine Cont.go rfl ?_ | refine OrdP.go ?_)
            exact ⟨_, [], FinOk.drop _ _, no (fun hc => by rcases hc.2.2.2.2.2 with h | h | h; have := h.1; omega; have := h.2.2; rw [(rfl : namesOf p = namesOf p), (rfl : namesOf pl = namesOf pl)] at this; (first | omega | (simp only [List.length_nil] at this; omega)); omega), rfl⟩
        · have hs : k = 2 := Classical.not_not.1 hs
          repeat (first | refine Ops.go ?_ | refine And.intro rfl ?_ | refine And.intro (Nat.le_of_ble_eq_true rfl) ?_ | refine And.intro (Int.natCast_nonneg _) ?_ | refine fun (_ : Nat) => ?_ | refine Ord.go ?_ | refine Run.go rfl ?_ | refine Cont.go rfl ?_ | refine OrdP.go ?_)
          exact ⟨_, [], FinOk.drop _ _, no (fun hc => by rcases hc.2.2.2.2.2 with h | h | h; have := h.1; omega; exact h.2.1 hs; omega), rfl⟩
      have hd2 : ¬ kd = 2 := hd
      repeat (first | refine Ops.go ?_ | refine And.intro rfl ?_ | refine And.intro (Nat.le_of_ble_eq_true rfl) ?_ | refine And.intro (Int.natCast_nonneg _) ?_ | refine fun (_ : Nat) => ?_ | refine Ord.go ?_ | refine Run.go rfl ?_ | refine Cont.go rfl ?_ | refine OrdP.go ?_)
      refine ⟨fun hd => ?_, fun hd => ?_⟩
      · have hd : kd = 3 := hd
        repeat (first | refine Ops.go ?_ | refine And.intro rfl ?_ | refine And.intro (Nat.le_of_ble_eq_true rfl) ?_ | refine And.intro (Int.natCast_nonneg _) ?_ | refine fun (_ : Nat) => ?_ | refine Ord.go ?_ | refine Run.go rfl ?_ | refine Cont.go rfl ?_ | refine OrdP.go ?_)
        exact ⟨_, [], FinOk.drop _ _, yes (⟨h, h', by omega, by omega, by rw [(rfl : namesOf p = namesOf p), (rfl : namesOf pl = namesOf pl)]; exact hb, .inr (.inr hd)⟩), rfl⟩
      · have hd : ¬ kd = 3 := hd
        repeat (first | refine Ops.go ?_ | refine And.intro rfl ?_ | refine And.intro (Nat.le_of_ble_eq_true rfl) ?_ | refine And.intro (Int.natCast_nonneg _) ?_ | refine fun (_ : Nat) => ?_ | refine Ord.go ?_ | refine Run.go rfl ?_ | refine Cont.go rfl ?_ | refine OrdP.go ?_)
        exact ⟨_, [], FinOk.drop _ _, no (fun hc => by rcases hc.2.2.2.2.2 with h | h | h; have := h.1; omega; have := h.1; omega; omega), rfl⟩

end Go.Proofs.YtiikjcdjgmlcgaaGreatDoor.HBT
/- A part of the tree: Part; the laws' 'seen'. -/
namespace Go.Proofs.YtiikjcdjgmlcgaaGreatDoor.HBT
open Go Go.Proofs.YtiikjcdjgmlcgaaGreatDoor.HB Go.RowKit
set_option maxRecDepth 8000

/-- What is seen of a node. -/
structure Sn where
  p : ByteArray
  d : ByteArray
  v : Int
  deriving DecidableEq
abbrev encN (x : Sn) : AV := .agg [.str x.p, .str x.d, .int .i64 x.v]
abbrev encNs (l : List Sn) : AV := .ro 3 (l.map encN) l.length
abbrev tN : TypeId := 63
abbrev LS3 := LN encN tN 3
theorem sn_eq (x y : Sn) : allEq [.str x.p, .str x.d, .int .i64 x.v] [.str y.p, .str y.d, .int .i64 y.v] ↔ x = y := by
  cases x; cases y; simp [allEq, eq1]
/-- A node as a part of that kind shows it. -/
def seenX (kd : Int) (x : Fu) : Sn := if kd = 2 then ⟨x.p, eS, 0⟩ else ⟨x.p, x.d, x.v⟩
noncomputable def partF (l : List Fu) (at_ : ByteArray) (kd : Int) : List Sn := (l.filter fun x => decide (coversP kd at_ 1 x.p)).map (seenX kd)
def partE (at_ : ByteArray) (kd : Int) : Int := if parseE at_ ≠ 0 then 10 else if kd < 1 ∨ 3 < kd then 1 else 0
theorem part_more {l : List Fu} {i : Nat} {x : Fu} (ex : l[i]? = some x) (a : ByteArray) (kd : Int) : partF (l.take (i + 1)) a kd = partF (l.take i) a kd ++ (if coversP kd a 1 x.p then [seenX kd x] else []) := by
  obtain ⟨h1, e1⟩ := List.getElem?_eq_some_iff.1 ex
  unfold partF
  rw [List.take_succ_eq_append_getElem h1, e1, List.filter_append, List.map_append]
  congr 1
  by_cases h : coversP kd a 1 x.p
  · rw [if_pos h, List.filter_cons_of_pos (by simpa using h)]; rfl
  · rw [if_neg h, List.filter_cons_of_neg (by simpa using h)]; rfl
theorem part_len (l : List Fu) (a : ByteArray) (kd : Int) : (partF l a kd).length ≤ l.length := by
  unfold partF
  rw [List.length_map]
  exact List.length_filter_le _ _
set_option maxHeartbeats 4000000 in
theorem part_spec (gt gm : Nat) {l : List Fu} {es : Array MapEntry} {cl : Nat} (hT : TM l es cl) (hI : TInv l) (a : ByteArray) (kd : Int) :
    FnSpec C 25 [.ptr 0 gt 0, .str a, .int .i64 kd] (TreeL gt gm es cl) (fun r L' => r = .tuple [encNs (if partE a kd = 0 then partF l a kd else []), .int .i64 (partE a kd)] ∧ L' = TreeL gt gm es cl) := by
  have hL := hI.len
  refine FnSpec.start C_ok Tryz.func25 rfl rfl Tryz.ntmps25 ?_
  repeat (first | refine OpsA.cons ?_ | refine OpsA.nil ?_ | refine Run.textA C_ok (aopC_sound C_ok) ?_ | refine And.intro rfl ?_ | refine And.intro (Nat.le_of_ble_eq_true rfl) ?_ | refine And.intro (Int.natCast_nonneg _) ?_ | refine fun (_ : Nat) => ?_ | refine Run.go rfl ?_ | refine Cont.go rfl ?_)
  refine ACallT.ok (ACall.sel [0] (by decide) [.ptr 0 gt 0] _ (.one (Sub.refl _)) (none_spec gt (some gm)) ?_)
  rintro r L' ⟨rfl, rfl⟩
  refine ⟨.bool false, Sub.refl _, ?_⟩
  repeat (first | refine OpsA.cons ?_ | refine OpsA.nil ?_ | refine Run.textA C_ok (aopC_sound C_ok) ?_ | refine And.intro rfl ?_ | refine And.intro (Nat.le_of_ble_eq_true rfl) ?_ | refine And.intro (Int.natCast_nonneg _) ?_ | refine fun (_ : Nat) => ?_ | refine Run.go rfl ?_ | refine Cont.go rfl ?_)
  refine ACallT.ok (ACall.ret (parse_code a) ?_)
  repeat (first | refine OpsA.cons ?_ | refine OpsA.nil ?_ | refine Run.textA C_ok (aopC_sound C_ok) ?_ | refine And.intro rfl ?_ | refine And.intro (Nat.le_of_ble_eq_true rfl) ?_ | refine And.intro (Int.natCast_nonneg _) ?_ | refine fun (_ : Nat) => ?_ | refine Run.go rfl ?_ | refine Cont.go rfl ?_)
  refine ⟨fun h => ?_, fun h => ?_⟩
  · have h : parseE a ≠ 0 := h
    have e : partE a kd = 10 := by unfold partE; rw [if_pos h]
    repeat (first | refine OpsA.cons ?_ | refine OpsA.nil ?_ | refine Run.textA C_ok (aopC_sound C_ok) ?_ | refine And.intro rfl ?_ | refine And.intro (Nat.le_of_ble_eq_true rfl) ?_ | refine And.intro (Int.natCast_nonneg _) ?_ | refine fun (_ : Nat) => ?_ | refine Run.go rfl ?_ | refine Cont.go rfl ?_)
    exact ⟨.tuple [encNs [], .int .i64 10], _, FinOk.keep _ [0, 1] (Sub.tuples ⟨Sub.nilsRo 3, Sub.refl _, trivial⟩) (by decide) rfl, by rw [e]; rfl, rfl⟩
  have hp : ¬ parseE a ≠ 0 := h
  repeat (first | refine OpsA.cons ?_ | refine OpsA.nil ?_ | refine Run.textA C_ok (aopC_sound C_ok) ?_ | refine And.intro rfl ?_ | refine And.intro (Nat.le_of_ble_eq_true rfl) ?_ | refine And.intro (Int.natCast_nonneg _) ?_ | refine fun (_ : Nat) => ?_ | refine Run.go rfl ?_ | refine Cont.go rfl ?_)
  refine ⟨fun h => ?_, fun h => ?_⟩
  · have h : kd < 1 := h
    have e : partE a kd = 1 := by unfold partE; rw [if_neg hp, if_pos (.inl h)]
    repeat (first | refine OpsA.cons ?_ | refine OpsA.nil ?_ | refine Run.textA C_ok (aopC_sound C_ok) ?_ | refine And.intro rfl ?_ | refine And.intro (Nat.le_of_ble_eq_true rfl) ?_ | refine And.intro (Int.natCast_nonneg _) ?_ | refine fun (_ : Nat) => ?_ | refine Run.go rfl ?_ | refine Cont.go rfl ?_)
    exact ⟨.tuple [encNs [], .int .i64 1], _, FinOk.keep _ [0, 1] (Sub.tuples ⟨Sub.nilsRo 3, Sub.refl _, trivial⟩) (by decide) rfl, by rw [e]; rfl, rfl⟩
  have h1 : ¬ kd < 1 := h
  repeat (first | refine OpsA.cons ?_ | refine OpsA.nil ?_ | refine Run.textA C_ok (aopC_sound C_ok) ?_ | refine And.intro rfl ?_ | refine And.intro (Nat.le_of_ble_eq_true rfl) ?_ | refine And.intro (Int.natCast_nonneg _) ?_ | refine fun (_ : Nat) => ?_ | refine Run.go rfl ?_ | refine Cont.go rfl ?_)
  refine ⟨fun h => ?_, fun h => ?_⟩
  · have h : 3 < kd := h
    have e : partE a kd = 1 := by unfold partE; rw [if_neg hp, if_pos (.inr h)]
    repeat (first | refine OpsA.cons ?_ | refine OpsA.nil ?_ | refine Run.textA C_ok (aopC_sound C_ok) ?_ | refine And.intro rfl ?_ | refine And.intro (Nat.le_of_ble_eq_true rfl) ?_ | refine And.intro (Int.natCast_nonneg _) ?_ | refine fun (_ : Nat) => ?_ | refine Run.go rfl ?_ | refine Cont.go rfl ?_)
    exact ⟨.tuple [encNs [], .int .i64 1], _, FinOk.keep _ [0, 1] (Sub.tuples ⟨Sub.nilsRo 3, Sub.refl _, trivial⟩) (by decide) rfl, by rw [e]; rfl, rfl⟩
  have h3 : ¬ 3 < kd := h
  have e : partE a kd = 0 := by unfold partE; rw [if_neg hp, if_neg (by omega)]
  rw [e, if_pos rfl]
  repeat (first | refine OpsA.cons ?_ | refine OpsA.nil ?_ | refine Run.textA C_ok (aopC_sound C_ok) ?_ | refine And.intro rfl ?_ | refine And.intro (Nat.le_of_ble_eq_true rfl) ?_ | refine And.intro (Int.natCast_nonneg _) ?_ | refine fun (_ : Nat) => ?_ | refine Run.go rfl ?_ | refine Cont.go rfl ?_)
  refine ACallT.ok (ACall.sel [0, 1] (by decide) [.ptr 0 gt 0] _ (.one (Sub.refl _)) (nodes_spec gt gm hT hI) ?_)
  rintro r L' ⟨gn, Cn, rfl, rfl⟩
  refine ⟨.sl 2 gn Cn l.length, Sub.refl _, ?_⟩
  repeat (first | refine OpsA.cons ?_ | refine OpsA.nil ?_ | refine Run.textA C_ok (aopC_sound C_ok) ?_ | refine And.intro rfl ?_ | refine And.intro (Nat.le_of_ble_eq_true rfl) ?_ | refine And.intro (Int.natCast_nonneg _) ?_ | refine fun (_ : Nat) => ?_ | refine Run.go rfl ?_ | refine Cont.go rfl ?_)
  refine Run.loopW (fun k env L => ∃ (i : Nat) (v : AV) (gk : Nat) (o : AObj), k = l.length - i ∧ i ≤ l.length ∧ LS3 3 (partF (l.take i) a kd) v gk o ∧ env = [.junk, .str a, .int .i64 kd, .junk, .junk, .junk, .junk, .junk, .junk, .junk, v, .junk, .junk, .junk, .junk, .junk, .junk, .junk, .junk, .junk, .junk, .junk, .junk, .junk, .junk, .junk, .junk, .junk, .junk, .junk, .sl 2 gn Cn l.length, .int .i64 l.length, .int .i64 i, .junk, .junk, .junk, .junk, .junk, .junk, .junk, .junk, .junk, .junk, .junk, .junk, .junk, .junk, .junk, .junk, .junk, .junk, .junk, .junk, .junk, .junk, .junk, .junk, .junk, .junk, .junk] ∧ L = [(gt, .cells tT [.any (.map (some gm))]), (gm, .obj (.map es cl)), (gn, .row tX 7 Cn (l.map encX)), (gk, o)]) l.length
    [.junk, .str a, .int .i64 kd, .junk, .junk, .junk, .junk, .junk, .junk, .junk, .nils, .junk, .junk, .junk, .junk, .junk, .junk, .junk, .junk, .junk, .junk, .junk, .junk, .junk, .junk, .junk, .junk, .junk, .junk, .junk, .sl 2 gn Cn l.length, .int .i64 l.length, .int .i64 (0 : Nat), .junk, .junk, .junk, .junk, .junk, .junk, .junk, .junk, .junk, .junk, .junk, .junk, .junk, .junk, .junk, .junk, .junk, .junk, .junk, .junk, .junk, .junk, .junk, .junk, .junk, .junk, .junk] [(gt, .cells tT [.any (.map (some gm))]), (gm, .obj (.map es cl)), (gn, .row tX 7 Cn (l.map encX)), (0, .dead)] (Weak.sel ?_ [0, 1, 2, 9] (by decide) ?_) ⟨0, .nils, 0, .dead, by omega, by omega, .inl ⟨rfl, rfl, rfl⟩, rfl, rfl⟩ ?_
  · repeat (first | exact trivial | refine And.intro (Sub.junk _) ?_ | refine And.intro (Sub.refl _) ?_ | refine And.intro (Sub.sl _ _ _ _ _) ?_ | refine And.intro (Sub.ptr _ _ _ _) ?_)
  · repeat (first | exact trivial | refine And.intro rfl ?_ | refine And.intro (SubO.refl _) ?_ | refine And.intro trivial ?_ | refine And.intro (SubO.cells (by repeat (first | exact trivial | refine And.intro (Sub.refl _) ?_ | refine And.intro (Sub.sl _ _ _ _ _) ?_ | refine And.intro (Sub.ptr _ _ _ _) ?_))) ?_)
  rintro k env L ⟨i, v, gk, o, rfl, hi, hv, rfl, rfl⟩
  repeat (first | refine OpsA.cons ?_ | refine OpsA.nil ?_ | refine Run.textA C_ok (aopC_sound C_ok) ?_ | refine And.intro rfl ?_ | refine And.intro (Nat.le_of_ble_eq_true rfl) ?_ | refine And.intro (Int.natCast_nonneg _) ?_ | refine fun (_ : Nat) => ?_ | refine Run.go rfl ?_ | refine Cont.go rfl ?_)
  refine ⟨fun h => ?_, fun h => ?_⟩
  · have h : (i : Int) < (l.length : Int) := h
    obtain ⟨x, ex⟩ : ∃ x, l[i]? = some x := ⟨_, List.getElem?_eq_getElem (by omega)⟩
    have hm := part_more ex a kd
    have hml := part_len (l.take i) a kd
    rw [List.length_take] at hml
    generalize partF (l.take i) a kd = m at hv hm hml
    repeat (first | refine OpsA.cons ?_ | refine OpsA.nil ?_ | refine Run.textA C_ok (aopC_sound C_ok) ?_ | refine And.intro rfl ?_ | refine And.intro (Nat.le_of_ble_eq_true rfl) ?_ | refine And.intro (Int.natCast_nonneg _) ?_ | refine fun (_ : Nat) => ?_ | refine Run.go rfl ?_ | refine Cont.go rfl ?_)
    refine ⟨h, ?_⟩
    repeat (first | refine OpsA.cons ?_ | refine OpsA.nil ?_ | refine Run.textA C_ok (aopC_sound C_ok) ?_ | refine And.intro rfl ?_ | refine And.intro (Nat.le_of_ble_eq_true rfl) ?_ | refine And.intro (Int.natCast_nonneg _) ?_ | refine fun (_ : Nat) => ?_ | refine Run.go rfl ?_ | refine Cont.go rfl ?_)
    refine ⟨encX x, map_at encX ex, ?_⟩
    repeat (first | refine OpsA.cons ?_ | refine OpsA.nil ?_ | refine Run.textA C_ok (aopC_sound C_ok) ?_ | refine And.intro rfl ?_ | refine And.intro (Nat.le_of_ble_eq_true rfl) ?_ | refine And.intro (Int.natCast_nonneg _) ?_ | refine fun (_ : Nat) => ?_ | refine Run.go rfl ?_ | refine Cont.go rfl ?_)
    refine ACallT.ok (ACall.ret (covers_spec kd a 1 x.p) ?_)
    by_cases hc : coversP kd a 1 x.p
    · rw [decide_eq_true hc]
      rw [if_pos hc] at hm
      repeat (first | refine OpsA.cons ?_ | refine OpsA.nil ?_ | refine Run.textA C_ok (aopC_sound C_ok) ?_ | refine And.intro rfl ?_ | refine And.intro (Nat.le_of_ble_eq_true rfl) ?_ | refine And.intro (Int.natCast_nonneg _) ?_ | refine fun (_ : Nat) => ?_ | refine Run.go rfl ?_ | refine Cont.go rfl ?_)
      refine ⟨fun h2 => ?_, fun h2 => ?_⟩
      · have h2 : kd = 2 := h2
        have es : seenX kd x = ⟨x.p, eS, 0⟩ := by unfold seenX; rw [if_pos h2]
        rw [es] at hm
        repeat (first | refine OpsA.cons ?_ | refine OpsA.nil ?_ | refine Run.textA C_ok (aopC_sound C_ok) ?_ | refine And.intro rfl ?_ | refine And.intro (Nat.le_of_ble_eq_true rfl) ?_ | refine And.intro (Int.natCast_nonneg _) ?_ | refine fun (_ : Nat) => ?_ | refine Run.go rfl ?_ | refine Cont.go rfl ?_)
        rcases hv with ⟨e0, rfl, rfl⟩ | ⟨Cp, rfl, rfl⟩
        · repeat (first | refine OpsA.cons ?_ | refine OpsA.nil ?_ | refine Run.textA C_ok (aopC_sound C_ok) ?_ | refine And.intro rfl ?_ | refine And.intro (Nat.le_of_ble_eq_true rfl) ?_ | refine And.intro (Int.natCast_nonneg _) ?_ | refine fun (_ : Nat) => ?_ | refine Run.go rfl ?_ | refine Cont.go rfl ?_)
          refine ⟨fun h => absurd h (List.cons_ne_nil _ _), fun _ => ?_⟩
          repeat (first | refine OpsA.cons ?_ | refine OpsA.nil ?_ | refine Run.textA C_ok (aopC_sound C_ok) ?_ | refine And.intro rfl ?_ | refine And.intro (Nat.le_of_ble_eq_true rfl) ?_ | refine And.intro (Int.natCast_nonneg _) ?_ | refine fun (_ : Nat) => ?_ | refine Run.go rfl ?_ | refine Cont.go rfl ?_)
          rename_i g' Cp'
          refine fun r hr => ?_
          obtain rfl := add1 hr (by omega)
          repeat (first | refine OpsA.cons ?_ | refine OpsA.nil ?_ | refine Run.textA C_ok (aopC_sound C_ok) ?_ | refine And.intro rfl ?_ | refine And.intro (Nat.le_of_ble_eq_true rfl) ?_ | refine And.intro (Int.natCast_nonneg _) ?_ | refine fun (_ : Nat) => ?_ | refine Run.go rfl ?_ | refine Cont.go rfl ?_)
          refine Cont.lpW ?_
          refine ⟨l.length - (i + 1), _, _, by omega, Weak.sel ?_ [0, 1, 2, 7] (by decide) ?_, ⟨i + 1, .sl 3 g' Cp' 1, g', _, rfl, by omega, hm.symm ▸ LN.one e0, rfl, rfl⟩⟩
          · repeat (first | exact trivial | refine And.intro (Sub.junk _) ?_ | refine And.intro (Sub.refl _) ?_ | refine And.intro (Sub.sl _ _ _ _ _) ?_ | refine And.intro (Sub.ptr _ _ _ _) ?_)
          · repeat (first | exact trivial | refine And.intro rfl ?_ | refine And.intro (SubO.refl _) ?_ | refine And.intro trivial ?_ | refine And.intro (SubO.cells (by repeat (first | exact trivial | refine And.intro (Sub.refl _) ?_ | refine And.intro (Sub.sl _ _ _ _ _) ?_ | refine And.intro (Sub.ptr _ _ _ _) ?_))) ?_)
        · repeat (first | refine OpsA.cons ?_ | refine OpsA.nil ?_ | refine Run.textA C_ok (aopC_sound C_ok) ?_ | refine And.intro rfl ?_ | refine And.intro (Nat.le_of_ble_eq_true rfl) ?_ | refine And.intro (Int.natCast_nonneg _) ?_ | refine fun (_ : Nat) => ?_ | refine Run.go rfl ?_ | refine Cont.go rfl ?_)
          refine ⟨by simp, ?_⟩
          repeat (first | refine OpsA.cons ?_ | refine OpsA.nil ?_ | refine Run.textA C_ok (aopC_sound C_ok) ?_ | refine And.intro rfl ?_ | refine And.intro (Nat.le_of_ble_eq_true rfl) ?_ | refine And.intro (Int.natCast_nonneg _) ?_ | refine fun (_ : Nat) => ?_ | refine Run.go rfl ?_ | refine Cont.go rfl ?_)
          refine ⟨by simp; omega, ?_⟩
          repeat (first | refine OpsA.cons ?_ | refine OpsA.nil ?_ | refine Run.textA C_ok (aopC_sound C_ok) ?_ | refine And.intro rfl ?_ | refine And.intro (Nat.le_of_ble_eq_true rfl) ?_ | refine And.intro (Int.natCast_nonneg _) ?_ | refine fun (_ : Nat) => ?_ | refine Run.go rfl ?_ | refine Cont.go rfl ?_)
          rename_i g' Cp'
          refine fun r hr => ?_
          obtain rfl := add1 hr (by omega)
          repeat (first | refine OpsA.cons ?_ | refine OpsA.nil ?_ | refine Run.textA C_ok (aopC_sound C_ok) ?_ | refine And.intro rfl ?_ | refine And.intro (Nat.le_of_ble_eq_true rfl) ?_ | refine And.intro (Int.natCast_nonneg _) ?_ | refine fun (_ : Nat) => ?_ | refine Run.go rfl ?_ | refine Cont.go rfl ?_)
          refine Cont.lpW ?_
          refine ⟨l.length - (i + 1), _, _, by omega, Weak.sel ?_ [0, 1, 2, 3] (by decide) ?_, ⟨i + 1, .sl 3 g' Cp' ((m.map encN).length + 1), g', _, rfl, by omega, hm.symm ▸ LN.snoc, rfl, rfl⟩⟩
          · repeat (first | exact trivial | refine And.intro (Sub.junk _) ?_ | refine And.intro (Sub.refl _) ?_ | refine And.intro (Sub.sl _ _ _ _ _) ?_ | refine And.intro (Sub.ptr _ _ _ _) ?_)
          · repeat (first | exact trivial | refine And.intro rfl ?_ | refine And.intro (SubO.refl _) ?_ | refine And.intro trivial ?_ | refine And.intro (SubO.cells (by repeat (first | exact trivial | refine And.intro (Sub.refl _) ?_ | refine And.intro (Sub.sl _ _ _ _ _) ?_ | refine And.intro (Sub.ptr _ _ _ _) ?_))) ?_)
      · have h2 : ¬ kd = 2 := h2
        have es : seenX kd x = ⟨x.p, x.d, x.v⟩ := by unfold seenX; rw [if_neg h2]
        rw [es] at hm
        repeat (first | refine OpsA.cons ?_ | refine OpsA.nil ?_ | refine Run.textA C_ok (aopC_sound C_ok) ?_ | refine And.intro rfl ?_ | refine And.intro (Nat.le_of_ble_eq_true rfl) ?_ | refine And.intro (Int.natCast_nonneg _) ?_ | refine fun (_ : Nat) => ?_ | refine Run.go rfl ?_ | refine Cont.go rfl ?_)
        rcases hv with ⟨e0, rfl, rfl⟩ | ⟨Cp, rfl, rfl⟩
        · repeat (first | refine OpsA.cons ?_ | refine OpsA.nil ?_ | refine Run.textA C_ok (aopC_sound C_ok) ?_ | refine And.intro rfl ?_ | refine And.intro (Nat.le_of_ble_eq_true rfl) ?_ | refine And.intro (Int.natCast_nonneg _) ?_ | refine fun (_ : Nat) => ?_ | refine Run.go rfl ?_ | refine Cont.go rfl ?_)
          refine ⟨fun h => absurd h (List.cons_ne_nil _ _), fun _ => ?_⟩
          repeat (first | refine OpsA.cons ?_ | refine OpsA.nil ?_ | refine Run.textA C_ok (aopC_sound C_ok) ?_ | refine And.intro rfl ?_ | refine And.intro (Nat.le_of_ble_eq_true rfl) ?_ | refine And.intro (Int.natCast_nonneg _) ?_ | refine fun (_ : Nat) => ?_ | refine Run.go rfl ?_ | refine Cont.go rfl ?_)
          rename_i g' Cp'
          refine fun r hr => ?_
          obtain rfl := add1 hr (by omega)
          repeat (first | refine OpsA.cons ?_ | refine OpsA.nil ?_ | refine Run.textA C_ok (aopC_sound C_ok) ?_ | refine And.intro rfl ?_ | refine And.intro (Nat.le_of_ble_eq_true rfl) ?_ | refine And.intro (Int.natCast_nonneg _) ?_ | refine fun (_ : Nat) => ?_ | refine Run.go rfl ?_ | refine Cont.go rfl ?_)
          refine Cont.lpW ?_
          refine ⟨l.length - (i + 1), _, _, by omega, Weak.sel ?_ [0, 1, 2, 7] (by decide) ?_, ⟨i + 1, .sl 3 g' Cp' 1, g', _, rfl, by omega, hm.symm ▸ LN.one e0, rfl, rfl⟩⟩
          · repeat (first | exact trivial | refine And.intro (Sub.junk _) ?_ | refine And.intro (Sub.refl _) ?_ | refine And.intro (Sub.sl _ _ _ _ _) ?_ | refine And.intro (Sub.ptr _ _ _ _) ?_)
          · repeat (first | exact trivial | refine And.intro rfl ?_ | refine And.intro (SubO.refl _) ?_ | refine And.intro trivial ?_ | refine And.intro (SubO.cells (by repeat (first | exact trivial | refine And.intro (Sub.refl _) ?_ | refine And.intro (Sub.sl _ _ _ _ _) ?_ | refine And.intro (Sub.ptr _ _ _ _) ?_))) ?_)
        · repeat (first | refine OpsA.cons ?_ | refine OpsA.nil ?_ | refine Run.textA C_ok (aopC_sound C_ok) ?_ | refine And.intro rfl ?_ | refine And.intro (Nat.le_of_ble_eq_true rfl) ?_ | refine And.intro (Int.natCast_nonneg _) ?_ | refine fun (_ : Nat) => ?_ | refine Run.go rfl ?_ | refine Cont.go rfl ?_)
          refine ⟨by simp, ?_⟩
          repeat (first | refine OpsA.cons ?_ | refine OpsA.nil ?_ | refine Run.textA C_ok (aopC_sound C_ok) ?_ | refine And.intro rfl ?_ | refine And.intro (Nat.le_of_ble_eq_true rfl) ?_ | refine And.intro (Int.natCast_nonneg _) ?_ | refine fun (_ : Nat) => ?_ | refine Run.go rfl ?_ | refine Cont.go rfl ?_)
          refine ⟨by simp; omega, ?_⟩
          repeat (first | refine OpsA.cons ?_ | refine OpsA.nil ?_ | refine Run.textA C_ok (aopC_sound C_ok) ?_ | refine And.intro rfl ?_ | refine And.intro (Nat.le_of_ble_eq_true rfl) ?_ | refine And.intro (Int.natCast_nonneg _) ?_ | refine fun (_ : Nat) => ?_ | refine Run.go rfl ?_ | refine Cont.go rfl ?_)
          rename_i g' Cp'
          refine fun r hr => ?_
          obtain rfl := add1 hr (by omega)
          repeat (first | refine OpsA.cons ?_ | refine OpsA.nil ?_ | refine Run.textA C_ok (aopC_sound C_ok) ?_ | refine And.intro rfl ?_ | refine And.intro (Nat.le_of_ble_eq_true rfl) ?_ | refine And.intro (Int.natCast_nonneg _) ?_ | refine fun (_ : Nat) => ?_ | refine Run.go rfl ?_ | refine Cont.go rfl ?_)
          refine Cont.lpW ?_
          refine ⟨l.length - (i + 1), _, _, by omega, Weak.sel ?_ [0, 1, 2, 3] (by decide) ?_, ⟨i + 1, .sl 3 g' Cp' ((m.map encN).length + 1), g', _, rfl, by omega, hm.symm ▸ LN.snoc, rfl, rfl⟩⟩
          · repeat (first | exact trivial | refine And.intro (Sub.junk _) ?_ | refine And.intro (Sub.refl _) ?_ | refine And.intro (Sub.sl _ _ _ _ _) ?_ | refine And.intro (Sub.ptr _ _ _ _) ?_)
          · repeat (first | exact trivial | refine And.intro rfl ?_ | refine And.intro (SubO.refl _) ?_ | refine And.intro trivial ?_ | refine And.intro (SubO.cells (by repeat (first | exact trivial | refine And.intro (Sub.refl _) ?_ | refine And.intro (Sub.sl _ _ _ _ _) ?_ | refine And.intro (Sub.ptr _ _ _ _) ?_))) ?_)
    · rw [decide_eq_false hc]
      rw [if_neg hc, List.append_nil] at hm
      repeat (first | refine OpsA.cons ?_ | refine OpsA.nil ?_ | refine Run.textA C_ok (aopC_sound C_ok) ?_ | refine And.intro rfl ?_ | refine And.intro (Nat.le_of_ble_eq_true rfl) ?_ | refine And.intro (Int.natCast_nonneg _) ?_ | refine fun (_ : Nat) => ?_ | refine Run.go rfl ?_ | refine Cont.go rfl ?_)
      refine fun r hr => ?_
      obtain rfl := add1 hr (by omega)
      repeat (first | refine OpsA.cons ?_ | refine OpsA.nil ?_ | refine Run.textA C_ok (aopC_sound C_ok) ?_ | refine And.intro rfl ?_ | refine And.intro (Nat.le_of_ble_eq_true rfl) ?_ | refine And.intro (Int.natCast_nonneg _) ?_ | refine fun (_ : Nat) => ?_ | refine Run.go rfl ?_ | refine Cont.go rfl ?_)
      refine Cont.lpW ?_
      refine ⟨l.length - (i + 1), _, _, by omega, Weak.sel ?_ [0, 1, 2, 3] (by decide) ?_, ⟨i + 1, v, gk, o, rfl, by omega, hm.symm ▸ hv, rfl, rfl⟩⟩
      · repeat (first | exact trivial | refine And.intro (Sub.junk _) ?_ | refine And.intro (Sub.refl _) ?_ | refine And.intro (Sub.sl _ _ _ _ _) ?_ | refine And.intro (Sub.ptr _ _ _ _) ?_)
      · repeat (first | exact trivial | refine And.intro rfl ?_ | refine And.intro (SubO.refl _) ?_ | refine And.intro trivial ?_ | refine And.intro (SubO.cells (by repeat (first | exact trivial | refine And.intro (Sub.refl _) ?_ | refine And.intro (Sub.sl _ _ _ _ _) ?_ | refine And.intro (Sub.ptr _ _ _ _) ?_))) ?_)
  · have h : ¬ (i : Int) < (l.length : Int) := h
    have ei : l.take i = l := List.take_of_length_le (by omega)
    rw [ei] at hv
    repeat (first | refine OpsA.cons ?_ | refine OpsA.nil ?_ | refine Run.textA C_ok (aopC_sound C_ok) ?_ | refine And.intro rfl ?_ | refine And.intro (Nat.le_of_ble_eq_true rfl) ?_ | refine And.intro (Int.natCast_nonneg _) ?_ | refine fun (_ : Nat) => ?_ | refine Run.go rfl ?_ | refine Cont.go rfl ?_)
    exact ⟨.tuple [encNs (partF l a kd), .int .i64 0], _, FinOk.keepLend (r1 := .tuple [encNs (partF l a kd), .int .i64 0]) [0, 1] (by decide) (Lend.tuples ⟨hv.lend rfl, .same _, trivial⟩) (Sub.refl _), rfl, rfl⟩
end Go.Proofs.YtiikjcdjgmlcgaaGreatDoor.HBT
/- The law TreePart, walked. -/
namespace Go.Proofs.YtiikjcdjgmlcgaaGreatDoor.HBT
open Go Go.Proofs.YtiikjcdjgmlcgaaGreatDoor.HB Go.RowKit
set_option maxRecDepth 8000

end Go.Proofs.YtiikjcdjgmlcgaaGreatDoor.HBT
/- One op, as the document tells it, plainly. -/
namespace Go.Proofs.YtiikjcdjgmlcgaaGreatDoor.HBT
open Go Go.Proofs.YtiikjcdjgmlcgaaGreatDoor.HB Go.RowKit
set_option maxRecDepth 8000

/-- What an op is refused with, up to the tree itself. -/
def staticF (s : Int) (o : Opp) : Int :=
  if o.k < 1 ∨ 7 < o.k then 48
  else if o.k = 1 ∧ (o.f < 0 ∨ 3 < o.f) then 48
  else if parseE o.p ≠ 0 then 10
  else if o.k = 1 ∧ 2 ≤ o.f ∧ longB o.p = true then 10
  else if namesOf o.p = [] ∧ (o.k = 1 ∨ o.k = 3) then 47
  else if o.k = 1 ∧ o.f % 2 = 1 ∧ s = 0 then 44
  else if (o.k = 1 ∨ o.k = 2) ∧ 64 < o.d.size then 45
  else 0
/-- A make, on the list. -/
def madeF (l : List Fu) (s st : Int) (o : Opp) : One := match findF l (parentB o.p) with
    | none => .error 40
    | some a =>
      if a.o ≠ 0 then .error 44
      else if isCnt o.f = true ∧ 99999 < a.k then .error 46
      else if (findF l (madeX s st a o).p).isSome then .error 41
      else if 64 ≤ l.length then .error 46
      else .ok (upd (ins (madeX s st a o) l) (madeA a o), told (madeX s st a o), [⟨1, (madeX s st a o).p, o.d, 0⟩])
/-- The other ops, on the list. -/
def restF (l : List Fu) (st : Int) (o : Opp) : One := match findF l o.p with
    | none => .error 40
    | some x =>
      if o.k ≤ 4 ∧ o.v ≠ -1 ∧ o.v ≠ x.v then .error 42
      else if o.k = 2 then
        if 2147483647 ≤ x.v then .error 46
        else .ok (upd l { x with d := o.d, c := st, v := x.v + 1 }, told { x with d := o.d, c := st, v := x.v + 1 }, [⟨2, x.p, o.d, x.v + 1⟩])
      else if o.k = 3 then
        if kidsF l x.p ≠ [] then .error 43
        else .ok (del l x.p, ⟨x.p, eS, 0, 0, 0, 0, []⟩, [goneC x])
      else if o.k = 5 then .ok (l, { told x with d := x.d }, [])
      else if o.k = 7 then .ok (l, { told x with kids := (kidsF l x.p).map fun y => nameB y.p }, [])
      else .ok (l, told x, [])

theorem longB_slash : longB slash = false := by kernel_rfl
theorem play_static (l : List Fu) (s st : Int) (o : Opp) : playF l s st o = if staticF s o ≠ 0 then .error (staticF s o) else if o.k = 1 then madeF l s st o else restF l st o := by
  unfold playF
  by_cases h1 : o.k < 1 ∨ 7 < o.k
  · have e : staticF s o = 48 := by unfold staticF; rw [if_pos h1]
    rw [if_pos h1, e, if_pos (by decide)]
  rw [if_neg h1]
  by_cases hk : o.k = 1
  · rw [if_pos hk, if_pos hk]
    unfold makeF
    by_cases h2 : o.f < 0 ∨ 3 < o.f
    · have e : staticF s o = 48 := by unfold staticF; rw [if_neg h1, if_pos ⟨hk, h2⟩]
      rw [if_pos h2, e, if_pos (by decide)]
    rw [if_neg h2]
    by_cases hr : o.p = slash
    · have e : staticF s o = 47 := by
        unfold staticF
        rw [if_neg h1, if_neg (fun e => h2 e.2), if_neg (fun e => e (by rw [hr]; exact parse_slash)), if_neg (fun e => by rw [hr, longB_slash] at e; cases e.2.2), if_pos ⟨by rw [hr]; exact names_slash, .inl hk⟩]
      rw [if_pos (parentE_47.2 hr), e, if_pos (by decide)]
    rw [if_neg (fun e => hr (parentE_47.1 e))]
    by_cases hp : parseE o.p ≠ 0
    · have e : staticF s o = 10 := by unfold staticF; rw [if_neg h1, if_neg (fun e => h2 e.2), if_pos hp]
      rw [if_pos (.inl (by rw [parent_bad hp]; exact hp)), e, if_pos (by decide)]
    have hp0 : parseE o.p = 0 := Classical.not_not.1 hp
    have hpe := parentE_of hp0 hr
    have hn : namesOf o.p ≠ [] := fun e => hr ((names_iff hp0).1 e)
    have hc : isCnt o.f = true ↔ 2 ≤ o.f := by
      unfold isCnt
      rw [decide_eq_true_eq]
      omega
    by_cases hl : isCnt o.f = true ∧ longB o.p = true
    · have e : staticF s o = 10 := by unfold staticF; rw [if_neg h1, if_neg (fun e => h2 e.2), if_neg hp, if_pos ⟨hk, hc.1 hl.1, hl.2⟩]
      rw [if_pos (.inr hl), e, if_pos (by decide)]
    rw [if_neg (by rintro (e | e); exact e hpe; exact hl e)]
    have hbf : isBrf o.f = true ↔ o.f % 2 = 1 := by
      unfold isBrf
      rw [decide_eq_true_eq]
      omega
    by_cases hb : isBrf o.f = true ∧ s = 0
    · have e : staticF s o = 44 := by unfold staticF; rw [if_neg h1, if_neg (fun e => h2 e.2), if_neg hp, if_neg (fun e => hl ⟨hc.2 e.2.1, e.2.2⟩), if_neg (fun e => hn e.1), if_pos ⟨hk, hbf.1 hb.1, hb.2⟩]
      rw [if_pos hb, e, if_pos (by decide)]
    rw [if_neg hb]
    by_cases hd : 64 < o.d.size
    · have e : staticF s o = 45 := by unfold staticF; rw [if_neg h1, if_neg (fun e => h2 e.2), if_neg hp, if_neg (fun e => hl ⟨hc.2 e.2.1, e.2.2⟩), if_neg (fun e => hn e.1), if_neg (fun e => hb ⟨hbf.2 e.2.1, e.2.2⟩), if_pos ⟨.inl hk, hd⟩]
      rw [if_pos hd, e, if_pos (by decide)]
    rw [if_neg hd]
    have e : staticF s o = 0 := by unfold staticF; rw [if_neg h1, if_neg (fun e => h2 e.2), if_neg hp, if_neg (fun e => hl ⟨hc.2 e.2.1, e.2.2⟩), if_neg (fun e => hn e.1), if_neg (fun e => hb ⟨hbf.2 e.2.1, e.2.2⟩), if_neg (fun e => hd e.2)]
    rw [e, if_neg (by decide)]
    rfl
  · rw [if_neg hk, if_neg hk]
    by_cases hp : parseE o.p ≠ 0
    · have e : staticF s o = 10 := by unfold staticF; rw [if_neg h1, if_neg (fun e => hk e.1), if_pos hp]
      rw [if_pos hp, e, if_pos (by decide)]
    rw [if_neg hp]
    have hp0 : parseE o.p = 0 := Classical.not_not.1 hp
    by_cases hr : o.k = 3 ∧ o.p = slash
    · have e : staticF s o = 47 := by unfold staticF; rw [if_neg h1, if_neg (fun e => hk e.1), if_neg hp, if_neg (fun e => hk e.1), if_pos ⟨by rw [hr.2]; exact names_slash, .inr hr.1⟩]
      rw [if_pos hr, e, if_pos (by decide)]
    rw [if_neg hr]
    have hr2 : ¬ (namesOf o.p = [] ∧ (o.k = 1 ∨ o.k = 3)) := fun e => hr ⟨e.2.resolve_left hk, (names_iff hp0).1 e.1⟩
    by_cases hd : o.k = 2 ∧ 64 < o.d.size
    · have e : staticF s o = 45 := by unfold staticF; rw [if_neg h1, if_neg (fun e => hk e.1), if_neg hp, if_neg (fun e => hk e.1), if_neg hr2, if_neg (fun e => hk e.1), if_pos ⟨.inr hd.1, hd.2⟩]
      rw [if_pos hd, e, if_pos (by decide)]
    rw [if_neg hd]
    have e : staticF s o = 0 := by unfold staticF; rw [if_neg h1, if_neg (fun e => hk e.1), if_neg hp, if_neg (fun e => hk e.1), if_neg hr2, if_neg (fun e => hk e.1), if_neg (fun e => hd ⟨e.1.resolve_left hk, e.2⟩)]
    rw [e, if_neg (by decide)]
    rfl
/-- Set: taken out, and put in otherwise. -/
theorem ins_del {l : List Fu} (h : Sorted l) {x n : Fu} (hx : x ∈ l) (hp : n.p = x.p) : ins n (del l x.p) = upd l n := by
  have hd := h.nodup
  have hfar : ∀ y ∈ del l x.p, y.p ≠ n.p := fun y hy => by
    rw [hp]; simpa using (List.mem_filter.1 hy).2
  refine Sorted.uniq (ins_sorted (del_sorted h) hfar) (upd_sorted h) ((ins_perm _ _).trans ?_)
  obtain ⟨i, hi⟩ := List.mem_iff_getElem?.1 hx
  rw [← erase_del hd hi, ← set_upd hd hi hp]
  obtain ⟨h1, e1⟩ := List.getElem?_eq_some_iff.1 hi
  rw [List.eraseIdx_eq_take_drop_succ, List.set_eq_take_append_cons_drop, if_pos h1]
  exact List.perm_middle.symm
end Go.Proofs.YtiikjcdjgmlcgaaGreatDoor.HBT
/- The changes say it all, plainly. -/
namespace Go.Proofs.YtiikjcdjgmlcgaaGreatDoor.HBT
open Go Go.Proofs.YtiikjcdjgmlcgaaGreatDoor.HB Go.RowKit
set_option maxRecDepth 8000

abbrev seeX (x : Fu) : Sn := ⟨x.p, x.d, x.v⟩
abbrev seeL (l : List Fu) : List Sn := l.map seeX
abbrev chN (c : Chg) : Sn := ⟨c.p, c.d, c.v⟩
/-- A change that can follow: what is seen ahead of it, and behind it. -/
def OkC (s s' : List Sn) (c : Chg) : Prop := (s'.map (·.p)).Nodup ∧
  ((c.k = 1 ∧ c.v = 0 ∧ (∀ x ∈ s, x.p ≠ c.p) ∧ s'.Perm (chN c :: s)) ∨
   (c.k = 2 ∧ ∃ x ∈ s, x.p = c.p ∧ c.v = x.v + 1 ∧ x.v ≤ 2147483647 ∧ 0 ≤ x.v ∧ ∀ t, s.Perm (x :: t) → s'.Perm (chN c :: t)) ∨
   (c.k = 3 ∧ c.d = eS ∧ ∃ x ∈ s, x.p = c.p ∧ c.v = x.v ∧ ∀ t, s.Perm (x :: t) → s'.Perm t))
inductive Fol : List Sn → List Chg → List Sn → Prop
  | nil {s s' : List Sn} : s'.Perm s → Fol s [] s'
  | cons {s s1 s2 : List Sn} {c : Chg} {cs : List Chg} : OkC s s1 c → Fol s1 cs s2 → Fol s (c :: cs) s2
theorem OkC.perm {s s0 s' : List Sn} {c : Chg} (h : OkC s s' c) (hp : s0.Perm s) : OkC s0 s' c := by
  obtain ⟨hn, h⟩ := h
  refine ⟨hn, ?_⟩
  rcases h with ⟨h1, h2, h3, h4⟩ | ⟨h1, x, hx, h2, h3, h5, h6, h4⟩ | ⟨h1, h2, x, hx, h3, h4, h5⟩
  · exact .inl ⟨h1, h2, fun x hx => h3 x (hp.mem_iff.1 hx), h4.trans (hp.symm.cons _)⟩
  · exact .inr (.inl ⟨h1, x, hp.mem_iff.2 hx, h2, h3, h5, h6, fun t ht => h4 t (hp.symm.trans ht)⟩)
  · exact .inr (.inr ⟨h1, h2, x, hp.mem_iff.2 hx, h3, h4, fun t ht => h5 t (hp.symm.trans ht)⟩)
theorem Fol.perm {s s0 s2 : List Sn} {cs : List Chg} (h : Fol s cs s2) (hp : s0.Perm s) : Fol s0 cs s2 := by
  cases h with
  | nil h => exact .nil (h.trans hp.symm)
  | cons h1 h2 => exact .cons (h1.perm hp) h2
theorem Fol.trans {s s1 s2 : List Sn} {cs cs' : List Chg} (h : Fol s cs s1) (k : Fol s1 cs' s2) : Fol s (cs ++ cs') s2 := by
  induction h with
  | nil h => exact k.perm h.symm
  | cons h1 _ ih => exact .cons h1 (ih k)
theorem seeL_nodup {l : List Fu} (h : TInv l) : ((seeL l).map (·.p)).Nodup := by
  rw [List.map_map]
  exact h.sorted.nodup
theorem seeL_upd {l : List Fu} {a b : Fu} (hn : (l.map (·.p)).Nodup) (ha : a ∈ l) (he : seeX b = seeX a) : seeL (upd l b) = seeL l := by
  unfold upd
  show (l.map _).map seeX = l.map seeX
  rw [List.map_map]
  refine List.map_congr_left fun y hy => ?_
  show seeX (if y.p = b.p then b else y) = seeX y
  have hbp : b.p = a.p := congrArg Sn.p he
  by_cases h : y.p = b.p
  · rw [if_pos h, he, mem_uniq hn hy ha (by rw [h, hbp])]
  · rw [if_neg h]
theorem split_upd {l : List Fu} {x b : Fu} (hn : (l.map (·.p)).Nodup) (hx : x ∈ l) (hb : b.p = x.p) : ∃ m : List Fu, l.Perm (x :: m) ∧ (upd l b).Perm (b :: m) ∧ (del l x.p).Perm m := by
  obtain ⟨l1, l2, rfl⟩ := List.append_of_mem hx
  have hnd := hn
  rw [List.map_append, List.map_cons, List.nodup_append] at hnd
  obtain ⟨_, h2, h3⟩ := hnd
  have far1 : ∀ y ∈ l1, y.p ≠ x.p := fun y hy e => h3 y.p (List.mem_map.2 ⟨y, hy, rfl⟩) x.p (.head _) e
  have far2 : ∀ y ∈ l2, y.p ≠ x.p := fun y hy e => (List.nodup_cons.1 h2).1 (List.mem_map.2 ⟨y, hy, e⟩)
  have u : ∀ m : List Fu, (∀ y ∈ m, y.p ≠ x.p) → upd m b = m := fun m hm => by
    unfold upd
    refine (List.map_congr_left fun y hy => ?_).trans (List.map_id m)
    rw [if_neg (by rw [hb]; exact hm y hy)]; rfl
  have d : ∀ m : List Fu, (∀ y ∈ m, y.p ≠ x.p) → del m x.p = m := fun m hm => List.filter_eq_self.2 fun y hy => decide_eq_true (hm y hy)
  refine ⟨l1 ++ l2, List.perm_middle, ?_, ?_⟩
  · have : upd (l1 ++ x :: l2) b = upd l1 b ++ b :: upd l2 b := by
      unfold upd
      rw [List.map_append, List.map_cons, if_pos hb.symm]
    rw [this, u l1 far1, u l2 far2]
    exact List.perm_middle
  · have : del (l1 ++ x :: l2) x.p = del l1 x.p ++ del l2 x.p := by
      unfold del
      rw [List.filter_append, List.filter_cons_of_neg (by simp)]
    rw [this, d l1 far1, d l2 far2]
/-- What one op tells can follow. -/
theorem playF_fol {l l' : List Fu} {s st : Int} {o : Opp} {r : Res} {cs : List Chg} (hI : TInv l) (hI2 : TInv l') (h : playF l s st o = .ok (l', r, cs)) : Fol (seeL l) cs (seeL l') := by
  have hnd := hI.sorted.nodup
  rw [play_static] at h
  split at h
  · cases h
  split at h
  · unfold madeF at h
    cases hf : findF l (parentB o.p) with
    | none => rw [hf] at h; cases h
    | some a =>
      rw [hf] at h
      simp only [] at h
      obtain ⟨ham, hap⟩ := findF_some hf
      split at h
      · cases h
      split at h
      · cases h
      split at h
      · cases h
      rename_i hex
      split at h
      · cases h
      cases h
      have hfar : ∀ y ∈ l, y.p ≠ (madeX s st a o).p := findF_none (by
        cases e : findF l (madeX s st a o).p with
        | none => rfl
        | some y => rw [e] at hex; exact absurd rfl hex)
      have hA : seeX (madeA a o) = seeX a := by unfold madeA; split <;> rfl
      have hai : a ∈ ins (madeX s st a o) l := (ins_perm _ _).mem_iff.2 (.tail _ ham)
      have hni : ((ins (madeX s st a o) l).map (·.p)).Nodup := (ins_sorted hI.sorted hfar).nodup
      have e1 := seeL_upd hni hai hA
      have e2 : (seeL (ins (madeX s st a o) l)).Perm (seeX (madeX s st a o) :: seeL l) := (ins_perm _ _).map seeX
      refine .cons (s1 := seeL (upd (ins (madeX s st a o) l) (madeA a o))) ⟨seeL_nodup hI2, .inl ⟨rfl, rfl, fun x hx => ?_, ?_⟩⟩ (.nil (.refl _))
      · obtain ⟨y, hy, rfl⟩ := List.mem_map.1 hx
        exact hfar y hy
      · rw [e1]; exact e2
  · unfold restF at h
    cases hf : findF l o.p with
    | none => rw [hf] at h; cases h
    | some x =>
      rw [hf] at h
      simp only [] at h
      obtain ⟨hx, hxp⟩ := findF_some hf
      have hok := hI.ok x hx
      split at h
      · cases h
      split at h
      · split at h
        · cases h
        rename_i hv
        cases h
        obtain ⟨m, m1, m2, _⟩ := split_upd (b := { x with d := o.d, c := st, v := x.v + 1 }) hnd hx rfl
        refine .cons (s1 := seeL (upd l { x with d := o.d, c := st, v := x.v + 1 })) ⟨seeL_nodup hI2, .inr (.inl ⟨rfl, seeX x, List.mem_map.2 ⟨x, hx, rfl⟩, rfl, rfl, hok.2.2.1.2, hok.2.2.1.1, fun t ht => ?_⟩)⟩ (.nil (.refl _))
        have h1 : (seeX x :: t).Perm (seeX x :: seeL m) := ht.symm.trans (m1.map seeX)
        exact (m2.map seeX).trans ((h1.cons_inv).symm.cons _)
      split at h
      · split at h
        · cases h
        cases h
        obtain ⟨m, m1, _, m3⟩ := split_upd (b := x) hnd hx rfl
        refine .cons (s1 := seeL (del l x.p)) ⟨seeL_nodup hI2, .inr (.inr ⟨rfl, rfl, seeX x, List.mem_map.2 ⟨x, hx, rfl⟩, rfl, rfl, fun t ht => ?_⟩)⟩ (.nil (.refl _))
        have h1 : (seeX x :: t).Perm (seeX x :: seeL m) := ht.symm.trans (m1.map seeX)
        exact (m3.map seeX).trans h1.cons_inv.symm
      split at h
      · cases h; exact .nil (.refl _)
      split at h
      · cases h; exact .nil (.refl _)
      · cases h; exact .nil (.refl _)
theorem goF_fol {s st : Int} (hs : 0 ≤ s ∧ s ≤ 2147483647) (ht : 1 ≤ st ∧ st ≤ 2147483647) : ∀ {os : List Opp} {l l' : List Fu} {rs rs' : List Res} {cs cs' : List Chg} {i : Nat}, TInv l → goF s st l rs cs i os = .ok (l', rs', cs') → ∃ ds, cs' = cs ++ ds ∧ Fol (seeL l) ds (seeL l')
  | [], _, _, _, _, _, _, _, _, h => by unfold goF at h; cases h; exact ⟨[], by simp, .nil (.refl _)⟩
  | o :: os, l, l', rs, rs', cs, cs', i, hI, h => by
    unfold goF at h
    split at h
    · cases h
    · rename_i l2 r c he
      have hI2 := playF_inv hI hs ht he
      obtain ⟨ds, e, hf⟩ := goF_fol hs ht hI2 h
      exact ⟨c ++ ds, by rw [e]; simp, (playF_fol hI hI2 he).trans hf⟩
theorem playR_fol {l : List Fu} {s st : Int} {ops : List Opp} (hI : TInv l) : Fol (seeL l) (playR l s st ops).2.2 (seeL (playR l s st ops).1) := by
  unfold playR
  split
  · exact .nil (.refl _)
  split
  · exact .nil (.refl _)
  split
  · exact .nil (.refl _)
  split
  · exact .nil (.refl _)
  · rename_i hn _ _ l' rs cs hg
    obtain ⟨ds, e, hf⟩ := goF_fol (by omega) (by omega) hI hg
    rw [List.nil_append] at e
    subst e
    exact hf
theorem gone_fol : ∀ (ds rest : List Fu), ((ds ++ rest).map (·.p)).Nodup → Fol (seeL (ds ++ rest)) (ds.map goneC) (seeL rest)
  | [], _, _ => .nil (.refl _)
  | d :: ds, rest, hn => by
    have hn2 : ((ds ++ rest).map (·.p)).Nodup := by
      rw [List.cons_append, List.map_cons, List.nodup_cons] at hn
      exact hn.2
    refine .cons (s1 := seeL (ds ++ rest)) ⟨by rw [List.map_map]; exact hn2, .inr (.inr ⟨rfl, rfl, seeX d, .head _, rfl, rfl, fun t ht => ?_⟩)⟩ (gone_fol ds rest hn2)
    exact ht.cons_inv
theorem endF_fol {l : List Fu} {s : Int} (hI : TInv l) : Fol (seeL l) (endF l s).2 (seeL (endF l s).1) := by
  unfold endF
  split
  · exact .nil (.refl _)
  · show Fol (seeL l) ((l.filter fun x => decide (x.o = s)).map goneC) (seeL (l.filter fun x => decide (x.o ≠ s)))
    have hp : (l.filter (fun x => decide (x.o = s)) ++ l.filter (fun x => decide (x.o ≠ s))).Perm l := by
      have h1 := List.filter_append_perm (fun x : Fu => decide (x.o = s)) l
      have e : (l.filter fun x => decide (x.o ≠ s)) = l.filter fun x => !decide (x.o = s) := by
        refine List.filter_congr fun x _ => ?_
        by_cases h : x.o = s <;> simp [h]
      rw [e]; exact h1
    exact (gone_fol _ _ (nodup_perm hp hI.sorted.nodup)).perm (hp.map seeX).symm
theorem part_root {l : List Fu} (hI : TInv l) : partF l slash 3 = seeL l := by
  unfold partF
  rw [List.filter_eq_self.2]
  · refine List.map_congr_left fun x _ => ?_
    unfold seenX
    rw [if_neg (by decide)]
  · intro x hx
    refine decide_eq_true ⟨parse_slash, (hI.ok x hx).1, by decide, by decide, ⟨by rw [names_slash]; exact Nat.zero_le _, fun i hi => by rw [names_slash] at hi; exact absurd hi (Nat.not_lt_zero _)⟩, .inr (.inr rfl)⟩
end Go.Proofs.YtiikjcdjgmlcgaaGreatDoor.HBT
