/- The contracts of 'begins' and 'Covers' of the place text. -/
import Derived.Test.YtcbjcmigecocgaaGreatDoorTwD1
set_option linter.unusedVariables false
set_option linter.unusedSimpArgs false
namespace Go.Proofs.YtcbjcmigecocgaaGreatDoor.HBT
open Go Go.Proofs.YtcbjcmigecocgaaGreatDoor.HB Go.RowKit
set_option maxRecDepth 8000

abbrev rds (l : List ByteArray) : AV := .ro 1 (l.map .str) l.length
theorem str_at (l : List ByteArray) (i : Nat) (x : ByteArray) (h : l[i]? = some x) : (l.map AV.str)[i]? = some (.str x) := by rw [List.getElem?_map, h]; rfl

def beginsP (c w : List ByteArray) : Prop := w.length ≤ c.length ∧ ∀ i < w.length, c[i]? = w[i]?
noncomputable instance (c w : List ByteArray) : Decidable (beginsP c w) := Classical.propDecidable _

theorem begins_spec (c w : List ByteArray) (_hc : c.length ≤ 1000) (hw : w.length ≤ 1000) : FnSpec C 52 [rds c, rds w] [] (fun r L' => r = .bool (decide (beginsP c w)) ∧ L' = []) := by
  refine FnSpec.start C_ok Tryz.func52 rfl rfl Tryz.ntmps52 ?_
  repeat(first|refine Sp ?_|refine fun(_:Nat)=>?_)
  refine ⟨fun h => ?_, fun h => ?_⟩
  · have h : (c.length : Int) < (w.length : Int) := h
    repeat(first|refine Sp ?_|refine fun(_:Nat)=>?_)
    exact ⟨_, [], FinOk.drop _ _, congrArg AV.bool (decide_eq_false (fun hb => by have := hb.1; omega)).symm, rfl⟩
  have h : ¬ (c.length : Int) < (w.length : Int) := h
  repeat(first|refine Sp ?_|refine fun(_:Nat)=>?_)
  refine Run.loop (fun k env L => ∃ i : Nat, k = w.length - i ∧ i ≤ w.length ∧ (∀ j < i, c[j]? = w[j]?) ∧ env = [rds c, rds w, .junk, .junk, .junk, .junk, .junk, .junk, .junk, .junk, .junk, .junk, rds w, .int .i64 w.length, .int .i64 i, .junk, .junk, .junk, .junk, .junk, .junk, .junk, .junk, .junk, .junk, .junk] ∧ L = []) w.length
    [rds c, rds w, .junk, .junk, .junk, .junk, .junk, .junk, .junk, .junk, .junk, .junk, rds w, .int .i64 w.length, .int .i64 (0 : Nat), .junk, .junk, .junk, .junk, .junk, .junk, .junk, .junk, .junk, .junk, .junk] ?_ ⟨0, by omega, by omega, (fun j hj => absurd hj (Nat.not_lt_zero j)), rfl, rfl⟩ ?_
  · repeat(first|exact trivial|refine ⟨.inl rfl, ?_⟩|refine ⟨.inr rfl, ?_⟩)
  rintro k env L ⟨i, rfl, hi, hP, rfl, rfl⟩
  repeat(first|refine Sp ?_|refine fun(_:Nat)=>?_)
  refine ⟨fun h2 => ?_, fun h2 => ?_⟩
  · have h2 : (i : Int) < (w.length : Int) := h2
    obtain ⟨y, ey⟩ : ∃ y, w[i]? = some y := ⟨w[i], List.getElem?_eq_getElem (by omega)⟩
    obtain ⟨x, ex⟩ : ∃ x, c[i]? = some x := ⟨c[i]'(by omega), List.getElem?_eq_getElem (by omega)⟩
    repeat(first|refine Sp ?_|refine fun(_:Nat)=>?_)
    refine ⟨h2, .str y, str_at _ _ _ ey, ?_⟩
    repeat(first|refine Sp ?_|refine fun(_:Nat)=>?_)
    refine ⟨by omega, .str x, str_at _ _ _ ex, ?_⟩
    repeat(first|refine Sp ?_|refine fun(_:Nat)=>?_)
    refine ⟨fun hne => ?_, fun heq => ?_⟩
    · have hne : x ≠ y := hne
      repeat(first|refine Sp ?_|refine fun(_:Nat)=>?_)
      exact ⟨_, [], FinOk.drop _ _, congrArg AV.bool (decide_eq_false (fun hb => hne (by have := hb.2 i (by omega); rw [ex, ey] at this; exact Option.some.inj this))).symm, rfl⟩
    · have heq : x = y := Classical.not_not.1 heq
      subst heq
      repeat(first|refine Sp ?_|refine fun(_:Nat)=>?_)
      refine fun r hr => ?_
      obtain rfl := add1 hr (by omega)
      repeat(first|refine Sp ?_|refine fun(_:Nat)=>?_)
      refine Cont.lp ?_
      refine ⟨w.length - (i + 1), _, 99, by omega, ?_, ⟨i + 1, rfl, by omega, fun j hj => ?_, rfl, rfl⟩⟩
      · repeat(first|exact trivial|refine ⟨.inl rfl, ?_⟩|refine ⟨.inr rfl, ?_⟩)
      · by_cases e : j = i
        · subst e; rw [ex, ey]
        · exact hP j (by omega)
  · have h2 : ¬ (i : Int) < (w.length : Int) := h2
    repeat(first|refine Sp ?_|refine fun(_:Nat)=>?_)
    exact ⟨_, [], FinOk.drop _ _, congrArg AV.bool (decide_eq_true ⟨by omega, fun j hj => hP j (by omega)⟩).symm, rfl⟩

def coversP (kd : Int) (pl : ByteArray) (k : Int) (p : ByteArray) : Prop :=
  parseE pl = 0 ∧ parseE p = 0 ∧ 1 ≤ k ∧ k ≤ 3 ∧ beginsP (namesOf p) (namesOf pl) ∧
    ((kd = 1 ∧ (namesOf p).length = (namesOf pl).length) ∨ (kd = 2 ∧ k ≠ 2 ∧ (namesOf p).length ≤ (namesOf pl).length + 1) ∨ kd = 3)
noncomputable instance (kd : Int) (pl : ByteArray) (k : Int) (p : ByteArray) : Decidable (coversP kd pl k p) := Classical.propDecidable _

set_option maxHeartbeats 8000000 in
theorem covers_spec (kd : Int) (pl : ByteArray) (k : Int) (p : ByteArray) : FnSpec C 29 [.int .i64 kd, .str pl, .int .i64 k, .str p] [] (fun r L' => r = .bool (decide (coversP kd pl k p)) ∧ L' = []) := by
  have no : ¬ coversP kd pl k p → AV.bool false = AV.bool (decide (coversP kd pl k p)) := fun h => congrArg AV.bool (decide_eq_false h).symm
  have yes : coversP kd pl k p → AV.bool true = AV.bool (decide (coversP kd pl k p)) := fun h => congrArg AV.bool (decide_eq_true h).symm
  refine FnSpec.start C_ok Tryz.func29 rfl rfl Tryz.ntmps29 ?_
  repeat(first|refine Sp ?_|refine fun(_:Nat)=>?_)
  refine ACall.pure _ (parse_spec pl) ?_
  rintro r L' (⟨h, rfl, rfl⟩ | ⟨h, hn, rfl, rfl⟩ | ⟨h, hn, g, rfl, rfl⟩)
  · refine ⟨_, Sub.refl _, ?_⟩
    repeat(first|refine Sp ?_|refine fun(_:Nat)=>?_)
    refine ACall.pure _ (parse_spec p) ?_
    rintro r L' (⟨h', rfl, rfl⟩ | ⟨h', hn', rfl, rfl⟩ | ⟨h', hn', g', rfl, rfl⟩)
    · refine ⟨_, Sub.refl _, ?_⟩
      repeat(first|refine Sp ?_|refine fun(_:Nat)=>?_)
      refine ⟨fun _ => ?_, fun e => absurd h e⟩
      repeat(first|refine Sp ?_|refine fun(_:Nat)=>?_)
      exact ⟨_, [], FinOk.drop _ _, no (fun hc => h hc.1), rfl⟩
    · refine ⟨_, Sub.refl _, ?_⟩
      repeat(first|refine Sp ?_|refine fun(_:Nat)=>?_)
      refine ⟨fun _ => ?_, fun e => absurd h e⟩
      repeat(first|refine Sp ?_|refine fun(_:Nat)=>?_)
      exact ⟨_, [], FinOk.drop _ _, no (fun hc => h hc.1), rfl⟩
    · refine ⟨_, Sub.refl _, ?_⟩
      repeat(first|refine Sp ?_|refine fun(_:Nat)=>?_)
      refine ⟨fun _ => ?_, fun e => absurd h e⟩
      repeat(first|refine Sp ?_|refine fun(_:Nat)=>?_)
      exact ⟨_, [], FinOk.drop _ _, no (fun hc => h hc.1), rfl⟩
  · refine ⟨_, Sub.refl _, ?_⟩
    repeat(first|refine Sp ?_|refine fun(_:Nat)=>?_)
    refine ACall.pure _ (parse_spec p) ?_
    rintro r L' (⟨h', rfl, rfl⟩ | ⟨h', hn', rfl, rfl⟩ | ⟨h', hn', g', rfl, rfl⟩)
    · refine ⟨_, Sub.refl _, ?_⟩
      repeat(first|refine Sp ?_|refine fun(_:Nat)=>?_)
      refine ⟨fun e => absurd rfl e, fun _ => ?_⟩
      repeat(first|refine Sp ?_|refine fun(_:Nat)=>?_)
      refine ⟨fun _ => ?_, fun e => absurd h' e⟩
      repeat(first|refine Sp ?_|refine fun(_:Nat)=>?_)
      exact ⟨_, [], FinOk.drop _ _, no (fun hc => h' hc.2.1), rfl⟩
    · refine ⟨_, Sub.refl _, ?_⟩
      repeat(first|refine Sp ?_|refine fun(_:Nat)=>?_)
      refine ⟨fun e => absurd rfl e, fun _ => ?_⟩
      repeat(first|refine Sp ?_|refine fun(_:Nat)=>?_)
      refine ⟨fun e => absurd rfl e, fun _ => ?_⟩
      repeat(first|refine Sp ?_|refine fun(_:Nat)=>?_)
      refine ⟨fun hk => ?_, fun hk => ?_⟩
      · have hk : k < 1 := hk
        repeat(first|refine Sp ?_|refine fun(_:Nat)=>?_)
        exact ⟨_, [], FinOk.drop _ _, no (fun hc => by have := hc.2.2.1; omega), rfl⟩
      have hk1 : ¬ k < 1 := hk
      repeat(first|refine Sp ?_|refine fun(_:Nat)=>?_)
      refine ⟨fun hk => ?_, fun hk => ?_⟩
      · have hk : (3 : Int) < k := hk
        repeat(first|refine Sp ?_|refine fun(_:Nat)=>?_)
        exact ⟨_, [], FinOk.drop _ _, no (fun hc => by have := hc.2.2.2.1; omega), rfl⟩
      have hk3 : ¬ (3 : Int) < k := hk
      repeat(first|refine Sp ?_|refine fun(_:Nat)=>?_)
      by_cases hb : beginsP ([] : List ByteArray) ([] : List ByteArray)
      case neg =>
        have c1 := begins_spec ([] : List ByteArray) ([] : List ByteArray) (by simp) (by simp)
        rw [decide_eq_false hb] at c1
        refine ACall.ret_lend (.two (.nils 1) (.nils 1)) c1 rfl ?_
        repeat(first|refine Sp ?_|refine fun(_:Nat)=>?_)
        exact ⟨_, [], FinOk.drop _ _, no (fun hc => hb (by have := hc.2.2.2.2.1; rw [hn', hn] at this; exact this)), rfl⟩
      have c1 := begins_spec ([] : List ByteArray) ([] : List ByteArray) (by simp) (by simp)
      rw [decide_eq_true hb] at c1
      refine ACall.ret_lend (.two (.nils 1) (.nils 1)) c1 rfl ?_
      repeat(first|refine Sp ?_|refine fun(_:Nat)=>?_)
      refine ⟨fun hd => ?_, fun hd => ?_⟩
      · have hd : kd = 1 := hd
        repeat(first|refine Sp ?_|refine fun(_:Nat)=>?_)
        refine ⟨fun hl => ?_, fun hl => ?_⟩
        · have hl : (0 : Int) = (0 : Int) := hl
          repeat(first|refine Sp ?_|refine fun(_:Nat)=>?_)
          exact ⟨_, [], FinOk.drop _ _, yes (⟨h, h', by omega, by omega, by rw [hn', hn]; exact hb, .inl ⟨hd, by rw [hn', hn] <;> first | omega | (simp only [List.length_nil]; omega)⟩⟩), rfl⟩
        · have hl : ¬ (0 : Int) = (0 : Int) := hl
          repeat(first|refine Sp ?_|refine fun(_:Nat)=>?_)
          exact ⟨_, [], FinOk.drop _ _, no (fun hc => by rcases hc.2.2.2.2.2 with h | h | h; have := h.2; rw [hn', hn] at this; (first | omega | (simp only [List.length_nil] at this; omega)); have := h.1; omega; omega), rfl⟩
      have hd1 : ¬ kd = 1 := hd
      repeat(first|refine Sp ?_|refine fun(_:Nat)=>?_)
      refine ⟨fun hd => ?_, fun hd => ?_⟩
      · have hd : kd = 2 := hd
        repeat(first|refine Sp ?_|refine fun(_:Nat)=>?_)
        refine ⟨fun hs => ?_, fun hs => ?_⟩
        · have hs : k ≠ 2 := hs
          repeat(first|refine Sp ?_|refine fun(_:Nat)=>?_)
          refine fun r hr => ?_
          obtain rfl : r = ((0 + 1 : Nat) : Int) := by rw [hr, IntKind.wrap_i64]; omega
          repeat(first|refine Sp ?_|refine fun(_:Nat)=>?_)
          refine ⟨fun hl => ?_, fun hl => ?_⟩
          · have hl : (0 : Int) ≤ ((0 + 1 : Nat) : Int) := hl
            repeat(first|refine Sp ?_|refine fun(_:Nat)=>?_)
            exact ⟨_, [], FinOk.drop _ _, yes (⟨h, h', by omega, by omega, by rw [hn', hn]; exact hb, .inr (.inl ⟨hd, hs, by rw [hn', hn] <;> first | omega | (simp only [List.length_nil]; omega)⟩)⟩), rfl⟩
          · have hl : ¬ (0 : Int) ≤ ((0 + 1 : Nat) : Int) := hl
            repeat(first|refine Sp ?_|refine fun(_:Nat)=>?_)
            exact ⟨_, [], FinOk.drop _ _, no (fun hc => by rcases hc.2.2.2.2.2 with h | h | h; have := h.1; omega; have := h.2.2; rw [hn', hn] at this; (first | omega | (simp only [List.length_nil] at this; omega)); omega), rfl⟩
        · have hs : k = 2 := Classical.not_not.1 hs
          repeat(first|refine Sp ?_|refine fun(_:Nat)=>?_)
          exact ⟨_, [], FinOk.drop _ _, no (fun hc => by rcases hc.2.2.2.2.2 with h | h | h; have := h.1; omega; exact h.2.1 hs; omega), rfl⟩
      have hd2 : ¬ kd = 2 := hd
      repeat(first|refine Sp ?_|refine fun(_:Nat)=>?_)
      refine ⟨fun hd => ?_, fun hd => ?_⟩
      · have hd : kd = 3 := hd
        repeat(first|refine Sp ?_|refine fun(_:Nat)=>?_)
        exact ⟨_, [], FinOk.drop _ _, yes (⟨h, h', by omega, by omega, by rw [hn', hn]; exact hb, .inr (.inr hd)⟩), rfl⟩
      · have hd : ¬ kd = 3 := hd
        repeat(first|refine Sp ?_|refine fun(_:Nat)=>?_)
        exact ⟨_, [], FinOk.drop _ _, no (fun hc => by rcases hc.2.2.2.2.2 with h | h | h; have := h.1; omega; have := h.1; omega; omega), rfl⟩
    · refine ⟨_, Sub.refl _, ?_⟩
      repeat(first|refine Sp ?_|refine fun(_:Nat)=>?_)
      refine ⟨fun e => absurd rfl e, fun _ => ?_⟩
      repeat(first|refine Sp ?_|refine fun(_:Nat)=>?_)
      refine ⟨fun e => absurd rfl e, fun _ => ?_⟩
      repeat(first|refine Sp ?_|refine fun(_:Nat)=>?_)
      refine ⟨fun hk => ?_, fun hk => ?_⟩
      · have hk : k < 1 := hk
        repeat(first|refine Sp ?_|refine fun(_:Nat)=>?_)
        exact ⟨_, [], FinOk.drop _ _, no (fun hc => by have := hc.2.2.1; omega), rfl⟩
      have hk1 : ¬ k < 1 := hk
      repeat(first|refine Sp ?_|refine fun(_:Nat)=>?_)
      refine ⟨fun hk => ?_, fun hk => ?_⟩
      · have hk : (3 : Int) < k := hk
        repeat(first|refine Sp ?_|refine fun(_:Nat)=>?_)
        exact ⟨_, [], FinOk.drop _ _, no (fun hc => by have := hc.2.2.2.1; omega), rfl⟩
      have hk3 : ¬ (3 : Int) < k := hk
      repeat(first|refine Sp ?_|refine fun(_:Nat)=>?_)
      by_cases hb : beginsP (namesOf p) ([] : List ByteArray)
      case neg =>
        have c1 := begins_spec (namesOf p) ([] : List ByteArray) (by omega) (by simp)
        rw [decide_eq_false hb] at c1
        refine ACall.ret_lend (.two (.row 0 g' _ (namesOf p).length 9 1 ((namesOf p).map .str) rfl (by rw [List.length_map]; exact Nat.le_refl _)) (.nils 1)) c1 rfl ?_
        repeat(first|refine Sp ?_|refine fun(_:Nat)=>?_)
        exact ⟨_, [], FinOk.drop _ _, no (fun hc => hb (by have := hc.2.2.2.2.1; rw [(rfl : namesOf p = namesOf p), hn] at this; exact this)), rfl⟩
      have c1 := begins_spec (namesOf p) ([] : List ByteArray) (by omega) (by simp)
      rw [decide_eq_true hb] at c1
      refine ACall.ret_lend (.two (.row 0 g' _ (namesOf p).length 9 1 ((namesOf p).map .str) rfl (by rw [List.length_map]; exact Nat.le_refl _)) (.nils 1)) c1 rfl ?_
      repeat(first|refine Sp ?_|refine fun(_:Nat)=>?_)
      refine ⟨fun hd => ?_, fun hd => ?_⟩
      · have hd : kd = 1 := hd
        repeat(first|refine Sp ?_|refine fun(_:Nat)=>?_)
        refine ⟨fun hl => ?_, fun hl => ?_⟩
        · have hl : ((namesOf p).length : Int) = (0 : Int) := hl
          repeat(first|refine Sp ?_|refine fun(_:Nat)=>?_)
          exact ⟨_, [], FinOk.drop _ _, yes (⟨h, h', by omega, by omega, by rw [(rfl : namesOf p = namesOf p), hn]; exact hb, .inl ⟨hd, by rw [(rfl : namesOf p = namesOf p), hn] <;> first | omega | (simp only [List.length_nil]; omega)⟩⟩), rfl⟩
        · have hl : ¬ ((namesOf p).length : Int) = (0 : Int) := hl
          repeat(first|refine Sp ?_|refine fun(_:Nat)=>?_)
          exact ⟨_, [], FinOk.drop _ _, no (fun hc => by rcases hc.2.2.2.2.2 with h | h | h; have := h.2; rw [(rfl : namesOf p = namesOf p), hn] at this; (first | omega | (simp only [List.length_nil] at this; omega)); have := h.1; omega; omega), rfl⟩
      have hd1 : ¬ kd = 1 := hd
      repeat(first|refine Sp ?_|refine fun(_:Nat)=>?_)
      refine ⟨fun hd => ?_, fun hd => ?_⟩
      · have hd : kd = 2 := hd
        repeat(first|refine Sp ?_|refine fun(_:Nat)=>?_)
        refine ⟨fun hs => ?_, fun hs => ?_⟩
        · have hs : k ≠ 2 := hs
          repeat(first|refine Sp ?_|refine fun(_:Nat)=>?_)
          refine fun r hr => ?_
          obtain rfl : r = ((0 + 1 : Nat) : Int) := by rw [hr, IntKind.wrap_i64]; omega
          repeat(first|refine Sp ?_|refine fun(_:Nat)=>?_)
          refine ⟨fun hl => ?_, fun hl => ?_⟩
          · have hl : ((namesOf p).length : Int) ≤ ((0 + 1 : Nat) : Int) := hl
            repeat(first|refine Sp ?_|refine fun(_:Nat)=>?_)
            exact ⟨_, [], FinOk.drop _ _, yes (⟨h, h', by omega, by omega, by rw [(rfl : namesOf p = namesOf p), hn]; exact hb, .inr (.inl ⟨hd, hs, by rw [(rfl : namesOf p = namesOf p), hn] <;> first | omega | (simp only [List.length_nil]; omega)⟩)⟩), rfl⟩
          · have hl : ¬ ((namesOf p).length : Int) ≤ ((0 + 1 : Nat) : Int) := hl
            repeat(first|refine Sp ?_|refine fun(_:Nat)=>?_)
            exact ⟨_, [], FinOk.drop _ _, no (fun hc => by rcases hc.2.2.2.2.2 with h | h | h; have := h.1; omega; have := h.2.2; rw [(rfl : namesOf p = namesOf p), hn] at this; (first | omega | (simp only [List.length_nil] at this; omega)); omega), rfl⟩
        · have hs : k = 2 := Classical.not_not.1 hs
          repeat(first|refine Sp ?_|refine fun(_:Nat)=>?_)
          exact ⟨_, [], FinOk.drop _ _, no (fun hc => by rcases hc.2.2.2.2.2 with h | h | h; have := h.1; omega; exact h.2.1 hs; omega), rfl⟩
      have hd2 : ¬ kd = 2 := hd
      repeat(first|refine Sp ?_|refine fun(_:Nat)=>?_)
      refine ⟨fun hd => ?_, fun hd => ?_⟩
      · have hd : kd = 3 := hd
        repeat(first|refine Sp ?_|refine fun(_:Nat)=>?_)
        exact ⟨_, [], FinOk.drop _ _, yes (⟨h, h', by omega, by omega, by rw [(rfl : namesOf p = namesOf p), hn]; exact hb, .inr (.inr hd)⟩), rfl⟩
      · have hd : ¬ kd = 3 := hd
        repeat(first|refine Sp ?_|refine fun(_:Nat)=>?_)
        exact ⟨_, [], FinOk.drop _ _, no (fun hc => by rcases hc.2.2.2.2.2 with h | h | h; have := h.1; omega; have := h.1; omega; omega), rfl⟩
  · refine ⟨_, Sub.refl _, ?_⟩
    repeat(first|refine Sp ?_|refine fun(_:Nat)=>?_)
    refine ACall.pure _ (parse_spec p) ?_
    rintro r L' (⟨h', rfl, rfl⟩ | ⟨h', hn', rfl, rfl⟩ | ⟨h', hn', g', rfl, rfl⟩)
    · refine ⟨_, Sub.refl _, ?_⟩
      repeat(first|refine Sp ?_|refine fun(_:Nat)=>?_)
      refine ⟨fun e => absurd rfl e, fun _ => ?_⟩
      repeat(first|refine Sp ?_|refine fun(_:Nat)=>?_)
      refine ⟨fun _ => ?_, fun e => absurd h' e⟩
      repeat(first|refine Sp ?_|refine fun(_:Nat)=>?_)
      exact ⟨_, [], FinOk.drop _ _, no (fun hc => h' hc.2.1), rfl⟩
    · refine ⟨_, Sub.refl _, ?_⟩
      repeat(first|refine Sp ?_|refine fun(_:Nat)=>?_)
      refine ⟨fun e => absurd rfl e, fun _ => ?_⟩
      repeat(first|refine Sp ?_|refine fun(_:Nat)=>?_)
      refine ⟨fun e => absurd rfl e, fun _ => ?_⟩
      repeat(first|refine Sp ?_|refine fun(_:Nat)=>?_)
      refine ⟨fun hk => ?_, fun hk => ?_⟩
      · have hk : k < 1 := hk
        repeat(first|refine Sp ?_|refine fun(_:Nat)=>?_)
        exact ⟨_, [], FinOk.drop _ _, no (fun hc => by have := hc.2.2.1; omega), rfl⟩
      have hk1 : ¬ k < 1 := hk
      repeat(first|refine Sp ?_|refine fun(_:Nat)=>?_)
      refine ⟨fun hk => ?_, fun hk => ?_⟩
      · have hk : (3 : Int) < k := hk
        repeat(first|refine Sp ?_|refine fun(_:Nat)=>?_)
        exact ⟨_, [], FinOk.drop _ _, no (fun hc => by have := hc.2.2.2.1; omega), rfl⟩
      have hk3 : ¬ (3 : Int) < k := hk
      repeat(first|refine Sp ?_|refine fun(_:Nat)=>?_)
      by_cases hb : beginsP ([] : List ByteArray) (namesOf pl)
      case neg =>
        have c1 := begins_spec ([] : List ByteArray) (namesOf pl) (by simp) (by omega)
        rw [decide_eq_false hb] at c1
        refine ACall.ret_lend (.two (.nils 1) (.row 0 g _ (namesOf pl).length 9 1 ((namesOf pl).map .str) rfl (by rw [List.length_map]; exact Nat.le_refl _))) c1 rfl ?_
        repeat(first|refine Sp ?_|refine fun(_:Nat)=>?_)
        exact ⟨_, [], FinOk.drop _ _, no (fun hc => hb (by have := hc.2.2.2.2.1; rw [hn', (rfl : namesOf pl = namesOf pl)] at this; exact this)), rfl⟩
      have c1 := begins_spec ([] : List ByteArray) (namesOf pl) (by simp) (by omega)
      rw [decide_eq_true hb] at c1
      refine ACall.ret_lend (.two (.nils 1) (.row 0 g _ (namesOf pl).length 9 1 ((namesOf pl).map .str) rfl (by rw [List.length_map]; exact Nat.le_refl _))) c1 rfl ?_
      repeat(first|refine Sp ?_|refine fun(_:Nat)=>?_)
      refine ⟨fun hd => ?_, fun hd => ?_⟩
      · have hd : kd = 1 := hd
        repeat(first|refine Sp ?_|refine fun(_:Nat)=>?_)
        refine ⟨fun hl => ?_, fun hl => ?_⟩
        · have hl : (0 : Int) = ((namesOf pl).length : Int) := hl
          repeat(first|refine Sp ?_|refine fun(_:Nat)=>?_)
          exact ⟨_, [], FinOk.drop _ _, yes (⟨h, h', by omega, by omega, by rw [hn', (rfl : namesOf pl = namesOf pl)]; exact hb, .inl ⟨hd, by rw [hn', (rfl : namesOf pl = namesOf pl)] <;> first | omega | (simp only [List.length_nil]; omega)⟩⟩), rfl⟩
        · have hl : ¬ (0 : Int) = ((namesOf pl).length : Int) := hl
          repeat(first|refine Sp ?_|refine fun(_:Nat)=>?_)
          exact ⟨_, [], FinOk.drop _ _, no (fun hc => by rcases hc.2.2.2.2.2 with h | h | h; have := h.2; rw [hn', (rfl : namesOf pl = namesOf pl)] at this; (first | omega | (simp only [List.length_nil] at this; omega)); have := h.1; omega; omega), rfl⟩
      have hd1 : ¬ kd = 1 := hd
      repeat(first|refine Sp ?_|refine fun(_:Nat)=>?_)
      refine ⟨fun hd => ?_, fun hd => ?_⟩
      · have hd : kd = 2 := hd
        repeat(first|refine Sp ?_|refine fun(_:Nat)=>?_)
        refine ⟨fun hs => ?_, fun hs => ?_⟩
        · have hs : k ≠ 2 := hs
          repeat(first|refine Sp ?_|refine fun(_:Nat)=>?_)
          refine fun r hr => ?_
          obtain rfl : r = (((namesOf pl).length + 1 : Nat) : Int) := by rw [hr, IntKind.wrap_i64]; omega
          repeat(first|refine Sp ?_|refine fun(_:Nat)=>?_)
          refine ⟨fun hl => ?_, fun hl => ?_⟩
          · have hl : (0 : Int) ≤ (((namesOf pl).length + 1 : Nat) : Int) := hl
            repeat(first|refine Sp ?_|refine fun(_:Nat)=>?_)
            exact ⟨_, [], FinOk.drop _ _, yes (⟨h, h', by omega, by omega, by rw [hn', (rfl : namesOf pl = namesOf pl)]; exact hb, .inr (.inl ⟨hd, hs, by rw [hn', (rfl : namesOf pl = namesOf pl)] <;> first | omega | (simp only [List.length_nil]; omega)⟩)⟩), rfl⟩
          · have hl : ¬ (0 : Int) ≤ (((namesOf pl).length + 1 : Nat) : Int) := hl
            repeat(first|refine Sp ?_|refine fun(_:Nat)=>?_)
            exact ⟨_, [], FinOk.drop _ _, no (fun hc => by rcases hc.2.2.2.2.2 with h | h | h; have := h.1; omega; have := h.2.2; rw [hn', (rfl : namesOf pl = namesOf pl)] at this; (first | omega | (simp only [List.length_nil] at this; omega)); omega), rfl⟩
        · have hs : k = 2 := Classical.not_not.1 hs
          repeat(first|refine Sp ?_|refine fun(_:Nat)=>?_)
          exact ⟨_, [], FinOk.drop _ _, no (fun hc => by rcases hc.2.2.2.2.2 with h | h | h; have := h.1; omega; exact h.2.1 hs; omega), rfl⟩
      have hd2 : ¬ kd = 2 := hd
      repeat(first|refine Sp ?_|refine fun(_:Nat)=>?_)
      refine ⟨fun hd => ?_, fun hd => ?_⟩
      · have hd : kd = 3 := hd
        repeat(first|refine Sp ?_|refine fun(_:Nat)=>?_)
        exact ⟨_, [], FinOk.drop _ _, yes (⟨h, h', by omega, by omega, by rw [hn', (rfl : namesOf pl = namesOf pl)]; exact hb, .inr (.inr hd)⟩), rfl⟩
      · have hd : ¬ kd = 3 := hd
        repeat(first|refine Sp ?_|refine fun(_:Nat)=>?_)
        exact ⟨_, [], FinOk.drop _ _, no (fun hc => by rcases hc.2.2.2.2.2 with h | h | h; have := h.1; omega; have := h.1; omega; omega), rfl⟩
    · refine ⟨.tuple [.sl 1 g' _ _, .int .i64 0], Sub.tuples ⟨Sub.sl _ 1 _ _ _, Sub.refl _, trivial⟩, ?_⟩
      repeat(first|refine Sp ?_|refine fun(_:Nat)=>?_)
      refine ⟨fun e => absurd rfl e, fun _ => ?_⟩
      repeat(first|refine Sp ?_|refine fun(_:Nat)=>?_)
      refine ⟨fun e => absurd rfl e, fun _ => ?_⟩
      repeat(first|refine Sp ?_|refine fun(_:Nat)=>?_)
      refine ⟨fun hk => ?_, fun hk => ?_⟩
      · have hk : k < 1 := hk
        repeat(first|refine Sp ?_|refine fun(_:Nat)=>?_)
        exact ⟨_, [], FinOk.drop _ _, no (fun hc => by have := hc.2.2.1; omega), rfl⟩
      have hk1 : ¬ k < 1 := hk
      repeat(first|refine Sp ?_|refine fun(_:Nat)=>?_)
      refine ⟨fun hk => ?_, fun hk => ?_⟩
      · have hk : (3 : Int) < k := hk
        repeat(first|refine Sp ?_|refine fun(_:Nat)=>?_)
        exact ⟨_, [], FinOk.drop _ _, no (fun hc => by have := hc.2.2.2.1; omega), rfl⟩
      have hk3 : ¬ (3 : Int) < k := hk
      repeat(first|refine Sp ?_|refine fun(_:Nat)=>?_)
      by_cases hb : beginsP (namesOf p) (namesOf pl)
      case neg =>
        have c1 := begins_spec (namesOf p) (namesOf pl) (by omega) (by omega)
        rw [decide_eq_false hb] at c1
        refine ACall.ret_lend (.two (.row 1 g' _ (namesOf p).length 9 1 ((namesOf p).map .str) rfl (by rw [List.length_map]; exact Nat.le_refl _)) (.row 0 g _ (namesOf pl).length 9 1 ((namesOf pl).map .str) rfl (by rw [List.length_map]; exact Nat.le_refl _))) c1 rfl ?_
        repeat(first|refine Sp ?_|refine fun(_:Nat)=>?_)
        exact ⟨_, [], FinOk.drop _ _, no (fun hc => hb (by have := hc.2.2.2.2.1; rw [(rfl : namesOf p = namesOf p), (rfl : namesOf pl = namesOf pl)] at this; exact this)), rfl⟩
      have c1 := begins_spec (namesOf p) (namesOf pl) (by omega) (by omega)
      rw [decide_eq_true hb] at c1
      refine ACall.ret_lend (.two (.row 1 g' _ (namesOf p).length 9 1 ((namesOf p).map .str) rfl (by rw [List.length_map]; exact Nat.le_refl _)) (.row 0 g _ (namesOf pl).length 9 1 ((namesOf pl).map .str) rfl (by rw [List.length_map]; exact Nat.le_refl _))) c1 rfl ?_
      repeat(first|refine Sp ?_|refine fun(_:Nat)=>?_)
      refine ⟨fun hd => ?_, fun hd => ?_⟩
      · have hd : kd = 1 := hd
        repeat(first|refine Sp ?_|refine fun(_:Nat)=>?_)
        refine ⟨fun hl => ?_, fun hl => ?_⟩
        · have hl : ((namesOf p).length : Int) = ((namesOf pl).length : Int) := hl
          repeat(first|refine Sp ?_|refine fun(_:Nat)=>?_)
          exact ⟨_, [], FinOk.drop _ _, yes (⟨h, h', by omega, by omega, by rw [(rfl : namesOf p = namesOf p), (rfl : namesOf pl = namesOf pl)]; exact hb, .inl ⟨hd, by rw [(rfl : namesOf p = namesOf p), (rfl : namesOf pl = namesOf pl)] <;> first | omega | (simp only [List.length_nil]; omega)⟩⟩), rfl⟩
        · have hl : ¬ ((namesOf p).length : Int) = ((namesOf pl).length : Int) := hl
          repeat(first|refine Sp ?_|refine fun(_:Nat)=>?_)
          exact ⟨_, [], FinOk.drop _ _, no (fun hc => by rcases hc.2.2.2.2.2 with h | h | h; have := h.2; rw [(rfl : namesOf p = namesOf p), (rfl : namesOf pl = namesOf pl)] at this; (first | omega | (simp only [List.length_nil] at this; omega)); have := h.1; omega; omega), rfl⟩
      have hd1 : ¬ kd = 1 := hd
      repeat(first|refine Sp ?_|refine fun(_:Nat)=>?_)
      refine ⟨fun hd => ?_, fun hd => ?_⟩
      · have hd : kd = 2 := hd
        repeat(first|refine Sp ?_|refine fun(_:Nat)=>?_)
        refine ⟨fun hs => ?_, fun hs => ?_⟩
        · have hs : k ≠ 2 := hs
          repeat(first|refine Sp ?_|refine fun(_:Nat)=>?_)
          refine fun r hr => ?_
          obtain rfl : r = (((namesOf pl).length + 1 : Nat) : Int) := by rw [hr, IntKind.wrap_i64]; omega
          repeat(first|refine Sp ?_|refine fun(_:Nat)=>?_)
          refine ⟨fun hl => ?_, fun hl => ?_⟩
          · have hl : ((namesOf p).length : Int) ≤ (((namesOf pl).length + 1 : Nat) : Int) := hl
            repeat(first|refine Sp ?_|refine fun(_:Nat)=>?_)
            exact ⟨_, [], FinOk.drop _ _, yes (⟨h, h', by omega, by omega, by rw [(rfl : namesOf p = namesOf p), (rfl : namesOf pl = namesOf pl)]; exact hb, .inr (.inl ⟨hd, hs, by rw [(rfl : namesOf p = namesOf p), (rfl : namesOf pl = namesOf pl)] <;> first | omega | (simp only [List.length_nil]; omega)⟩)⟩), rfl⟩
          · have hl : ¬ ((namesOf p).length : Int) ≤ (((namesOf pl).length + 1 : Nat) : Int) := hl
            repeat(first|refine Sp ?_|refine fun(_:Nat)=>?_)
            exact ⟨_, [], FinOk.drop _ _, no (fun hc => by rcases hc.2.2.2.2.2 with h | h | h; have := h.1; omega; have := h.2.2; rw [(rfl : namesOf p = namesOf p), (rfl : namesOf pl = namesOf pl)] at this; (first | omega | (simp only [List.length_nil] at this; omega)); omega), rfl⟩
        · have hs : k = 2 := Classical.not_not.1 hs
          repeat(first|refine Sp ?_|refine fun(_:Nat)=>?_)
          exact ⟨_, [], FinOk.drop _ _, no (fun hc => by rcases hc.2.2.2.2.2 with h | h | h; have := h.1; omega; exact h.2.1 hs; omega), rfl⟩
      have hd2 : ¬ kd = 2 := hd
      repeat(first|refine Sp ?_|refine fun(_:Nat)=>?_)
      refine ⟨fun hd => ?_, fun hd => ?_⟩
      · have hd : kd = 3 := hd
        repeat(first|refine Sp ?_|refine fun(_:Nat)=>?_)
        exact ⟨_, [], FinOk.drop _ _, yes (⟨h, h', by omega, by omega, by rw [(rfl : namesOf p = namesOf p), (rfl : namesOf pl = namesOf pl)]; exact hb, .inr (.inr hd)⟩), rfl⟩
      · have hd : ¬ kd = 3 := hd
        repeat(first|refine Sp ?_|refine fun(_:Nat)=>?_)
        exact ⟨_, [], FinOk.drop _ _, no (fun hc => by rcases hc.2.2.2.2.2 with h | h | h; have := h.1; omega; have := h.1; omega; omega), rfl⟩

end Go.Proofs.YtcbjcmigecocgaaGreatDoor.HBT
