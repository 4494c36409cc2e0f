/- The contracts of 'begins' and 'Covers' of the place text. -/
import Derived.Test.YtgpbppkmmlclfaaDoorTtD1
set_option linter.unusedVariables false
set_option linter.unusedSimpArgs false
namespace Go.Proofs.YtgpbppkmmlclfaaDoor.HBT
open Go Go.Proofs.YtgpbppkmmlclfaaDoor.HB Go.RowKit
set_option maxRecDepth 8000

abbrev rds (l : List ByteArray) : AV := .ro 1 (l.map .str) l.length
theorem str_at (l : List ByteArray) (i : Nat) (x : ByteArray) (h : l[i]? = some x) : (l.map AV.str)[i]? = some (.str x) := by rw [List.getElem?_map, h]; rfl

def beginsP (c w : List ByteArray) : Prop := w.length ≤ c.length ∧ ∀ i < w.length, c[i]? = w[i]?
noncomputable instance (c w : List ByteArray) : Decidable (beginsP c w) := Classical.propDecidable _

theorem begins_spec (c w : List ByteArray) (_hc : c.length ≤ 1000) (hw : w.length ≤ 1000) : FnSpec C 28 [rds c, rds w] [] (fun r L' => r = .bool (decide (beginsP c w)) ∧ L' = []) := by
  refine FnSpec.start C_ok Tryd.func28 rfl rfl Tryd.ntmps28 ?_
  repeat(first|refine Sp ?_|refine fun(_:Nat)=>?_)
  refine ⟨fun h => ?_, fun h => ?_⟩
  · have h : (c.length : Int) < (w.length : Int) := h
    repeat(first|refine Sp ?_|refine fun(_:Nat)=>?_)
    exact ⟨_, [], FinOk.drop _ _, congrArg AV.bool (decide_eq_false (fun hb => by have := hb.1; omega)).symm, rfl⟩
  have h : ¬ (c.length : Int) < (w.length : Int) := h
  repeat(first|refine Sp ?_|refine fun(_:Nat)=>?_)
  refine Run.loop (fun k env L => ∃ i : Nat, k = w.length - i ∧ i ≤ w.length ∧ (∀ j < i, c[j]? = w[j]?) ∧ env = [rds c, rds w, .junk, .junk, .junk, .junk, .junk, .junk, .junk, .junk, .junk, .junk, rds w, .int .i64 w.length, .int .i64 i, .junk, .junk, .junk, .junk, .junk, .junk, .junk, .junk, .junk, .junk, .junk] ∧ L = []) w.length
    [rds c, rds w, .junk, .junk, .junk, .junk, .junk, .junk, .junk, .junk, .junk, .junk, rds w, .int .i64 w.length, .int .i64 (0 : Nat), .junk, .junk, .junk, .junk, .junk, .junk, .junk, .junk, .junk, .junk, .junk] ?_ ⟨0, by omega, by omega, (fun j hj => absurd hj (Nat.not_lt_zero j)), rfl, rfl⟩ ?_
  · repeat(first|exact trivial|refine ⟨.inl rfl, ?_⟩|refine ⟨.inr rfl, ?_⟩)
  rintro k env L ⟨i, rfl, hi, hP, rfl, rfl⟩
  repeat(first|refine Sp ?_|refine fun(_:Nat)=>?_)
  refine ⟨fun h2 => ?_, fun h2 => ?_⟩
  · have h2 : (i : Int) < (w.length : Int) := h2
    obtain ⟨y, ey⟩ : ∃ y, w[i]? = some y := ⟨w[i], List.getElem?_eq_getElem (by omega)⟩
    obtain ⟨x, ex⟩ : ∃ x, c[i]? = some x := ⟨c[i]'(by omega), List.getElem?_eq_getElem (by omega)⟩
    repeat(first|refine Sp ?_|refine fun(_:Nat)=>?_)
    refine ⟨h2, .str y, str_at _ _ _ ey, ?_⟩
    repeat(first|refine Sp ?_|refine fun(_:Nat)=>?_)
    refine ⟨by omega, .str x, str_at _ _ _ ex, ?_⟩
    repeat(first|refine Sp ?_|refine fun(_:Nat)=>?_)
    refine ⟨fun hne => ?_, fun heq => ?_⟩
    · have hne : x ≠ y := hne
      repeat(first|refine Sp ?_|refine fun(_:Nat)=>?_)
      exact ⟨_, [], FinOk.drop _ _, congrArg AV.bool (decide_eq_false (fun hb => hne (by have := hb.2 i (by omega); rw [ex, ey] at this; exact Option.some.inj this))).symm, rfl⟩
    · have heq : x = y := Classical.not_not.1 heq
      subst heq
      repeat(first|refine Sp ?_|refine fun(_:Nat)=>?_)
      refine fun r hr => ?_
      obtain rfl := add1 hr (by omega)
      repeat(first|refine Sp ?_|refine fun(_:Nat)=>?_)
      refine Cont.lp ?_
      refine ⟨w.length - (i + 1), _, 99, by omega, ?_, ⟨i + 1, rfl, by omega, fun j hj => ?_, rfl, rfl⟩⟩
      · repeat(first|exact trivial|refine ⟨.inl rfl, ?_⟩|refine ⟨.inr rfl, ?_⟩)
      · by_cases e : j = i
        · subst e; rw [ex, ey]
        · exact hP j (by omega)
  · have h2 : ¬ (i : Int) < (w.length : Int) := h2
    repeat(first|refine Sp ?_|refine fun(_:Nat)=>?_)
    exact ⟨_, [], FinOk.drop _ _, congrArg AV.bool (decide_eq_true ⟨by omega, fun j hj => hP j (by omega)⟩).symm, rfl⟩

def coversP (kd : Int) (pl : ByteArray) (k : Int) (p : ByteArray) : Prop :=
  parseE pl = 0 ∧ parseE p = 0 ∧ 1 ≤ k ∧ k ≤ 3 ∧ beginsP (namesOf p) (namesOf pl) ∧
    ((kd = 1 ∧ (namesOf p).length = (namesOf pl).length) ∨ (kd = 2 ∧ k ≠ 2 ∧ (namesOf p).length ≤ (namesOf pl).length + 1) ∨ kd = 3)
noncomputable instance (kd : Int) (pl : ByteArray) (k : Int) (p : ByteArray) : Decidable (coversP kd pl k p) := Classical.propDecidable _

set_option maxHeartbeats 8000000 in
theorem covers_spec (kd : Int) (pl : ByteArray) (k : Int) (p : ByteArray) : FnSpec C 11 [.int .i64 kd, .str pl, .int .i64 k, .str p] [] (fun r L' => r = .bool (decide (coversP kd pl k p)) ∧ L' = []) := by
  have no : ¬ coversP kd pl k p → AV.bool false = AV.bool (decide (coversP kd pl k p)) := fun h => congrArg AV.bool (decide_eq_false h).symm
  have yes : coversP kd pl k p → AV.bool true = AV.bool (decide (coversP kd pl k p)) := fun h => congrArg AV.bool (decide_eq_true h).symm
  refine FnSpec.start C_ok Tryd.func11 rfl rfl Tryd.ntmps11 ?_
  repeat(first|refine Sp ?_|refine fun(_:Nat)=>?_)
  refine ACall.pure _ (parse_spec pl) ?_
  rintro r L' (⟨h, rfl, rfl⟩ | ⟨h, hn, rfl, rfl⟩ | ⟨h, hn, g, rfl, rfl⟩)
  · refine ⟨_, Sub.refl _, ?_⟩
    repeat(first|refine Sp ?_|refine fun(_:Nat)=>?_)
    refine ACall.pure _ (parse_spec p) ?_
    rintro r L' (⟨h', rfl, rfl⟩ | ⟨h', hn', rfl, rfl⟩ | ⟨h', hn', g', rfl, rfl⟩)
    · refine ⟨_, Sub.refl _, ?_⟩
      repeat(first|refine Sp ?_|refine fun(_:Nat)=>?_)
      refine ⟨fun _ => ?_, fun e => absurd h e⟩
      repeat(first|refine Sp ?_|refine fun(_:Nat)=>?_)
      exact ⟨_, [], FinOk.drop _ _, no (fun hc => h hc.1), rfl⟩
    · refine ⟨_, Sub.refl _, ?_⟩
      repeat(first|refine Sp ?_|refine fun(_:Nat)=>?_)
      refine ⟨fun _ => ?_, fun e => absurd h e⟩
      repeat(first|refine Sp ?_|refine fun(_:Nat)=>?_)
      exact ⟨_, [], FinOk.drop _ _, no (fun hc => h hc.1), rfl⟩
    · refine ⟨_, Sub.refl _, ?_⟩
      repeat(first|refine Sp ?_|refine fun(_:Nat)=>?_)
      refine ⟨fun _ => ?_, fun e => absurd h e⟩
      repeat(first|refine Sp ?_|refine fun(_:Nat)=>?_)
      exact ⟨_, [], FinOk.drop _ _, no (fun hc => h hc.1), rfl⟩
  · refine ⟨_, Sub.refl _, ?_⟩
    repeat(first|refine Sp ?_|refine fun(_:Nat)=>?_)
    refine ACall.pure _ (parse_spec p) ?_
    rintro r L' (⟨h', rfl, rfl⟩ | ⟨h', hn', rfl, rfl⟩ | ⟨h', hn', g', rfl, rfl⟩)
    · refine ⟨_, Sub.refl _, ?_⟩
      repeat(first|refine Sp ?_|refine fun(_:Nat)=>?_)
      refine ⟨fun e => absurd rfl e, fun _ => ?_⟩
      repeat(first|refine Sp ?_|refine fun(_:Nat)=>?_)
      refine ⟨fun _ => ?_, fun e => absurd h' e⟩
      repeat(first|refine Sp ?_|refine fun(_:Nat)=>?_)
      exact ⟨_, [], FinOk.drop _ _, no (fun hc => h' hc.2.1), rfl⟩
    · refine ⟨_, Sub.refl _, ?_⟩
      repeat(first|refine Sp ?_|refine fun(_:Nat)=>?_)
      refine ⟨fun e => absurd rfl e, fun _ => ?_⟩
      repeat(first|refine Sp ?_|refine fun(_:Nat)=>?_)
      refine ⟨fun e => absurd rfl e, fun _ => ?_⟩
      repeat(first|refine Sp ?_|refine fun(_:Nat)=>?_)
      refine ⟨fun hk => ?_, fun hk => ?_⟩
      · have hk : k < 1 := hk
        repeat(first|refine Sp ?_|refine fun(_:Nat)=>?_)
        exact ⟨_, [], FinOk.drop _ _, no (fun hc => by have := hc.2.2.1; omega), rfl⟩
      have hk1 : ¬ k < 1 := hk
      repeat(first|refine Sp ?_|refine fun(_:Nat)=>?_)
      refine ⟨fun hk => ?_, fun hk => ?_⟩
      · have hk : (3 : Int) < k := hk
        repeat(first|refine Sp ?_|refine fun(_:Nat)=>?_)
        exact ⟨_, [], FinOk.drop _ _, no (fun hc => by have := hc.2.2.2.1; omega), rfl⟩
      have hk3 : ¬ (3 : Int) < k := hk
      repeat(first|refine Sp ?_|refine fun(_:Nat)=>?_)
      by_cases hb : beginsP ([] : List ByteArray) ([] : List ByteArray)
      case neg =>
        have c1 := begins_spec ([] : List ByteArray) ([] : List ByteArray) (by simp) (by simp)
        rw [decide_eq_false hb] at c1
        refine ACall.ret_lend (.two (.nils 1) (.nils 1)) c1 rfl ?_
        repeat(first|refine Sp ?_|refine fun(_:Nat)=>?_)
        exact ⟨_, [], FinOk.drop _ _, no (fun hc => hb (by have := hc.2.2.2.2.1; rw [hn', hn] at this; exact this)), rfl⟩
      have c1 := begins_spec ([] : List ByteArray) ([] : List ByteArray) (by simp) (by simp)
      rw [decide_eq_true hb] at c1
      refine ACall.ret_lend (.two (.nils 1) (.nils 1)) c1 rfl ?_
      repeat(first|refine Sp ?_|refine fun(_:Nat)=>?_)
      refine ⟨fun hd => ?_, fun hd => ?_⟩
      · have hd : kd = 1 := hd
        repeat(first|refine Sp ?_|refine fun(_:Nat)=>?_)
        refine ⟨fun hl => ?_, fun hl => ?_⟩
        · have hl : (0 : Int) = (0 : Int) := hl
          repeat(first|refine Sp ?_|refine fun(_:Nat)=>?_)
          exact ⟨_, [], FinOk.drop _ _, yes (⟨h, h', by omega, by omega, by rw [hn', hn]; exact hb, .inl ⟨hd, by rw [hn', hn] <;> first | omega | (simp only [List.length_nil]; omega)⟩⟩), rfl⟩
        · have hl : ¬ (0 : Int) = (0 : Int) := hl
          repeat(first|refine Sp ?_|refine fun(_:Nat)=>?_)
          exact ⟨_, [], FinOk.drop _ _, no (fun hc => by rcases hc.2.2.2.2.2 with h | h | h; have := h.2; rw [hn', hn] at this; (first | omega | (simp only [List.length_nil] at this; omega)); have := h.1; omega; omega), rfl⟩
      have hd1 : ¬ kd = 1 := hd
      repeat(first|refine Sp ?_|refine fun(_:Nat)=>?_)
      refine ⟨fun hd => ?_, fun hd => ?_⟩
      · have hd : kd = 2 := hd
        repeat(first|refine Sp ?_|refine fun(_:Nat)=>?_)
        refine ⟨fun hs => ?_, fun hs => ?_⟩
        · have hs : k ≠ 2 := hs
          repeat(first|refine Sp ?_|refine fun(_:Nat)=>?_)
          refine fun r hr => ?_
          obtain rfl : r = ((0 + 1 : Nat) : Int) := by rw [hr, IntKind.wrap_i64]; omega
          repeat(first|refine Sp ?_|refine fun(_:Nat)=>?_)
          refine ⟨fun hl => ?_, fun hl => ?_⟩
          · have hl : (0 : Int) ≤ ((0 + 1 : Nat) : Int) := hl
            repeat(first|refine Sp ?_|refine fun(_:Nat)=>?_)
            exact ⟨_, [], FinOk.drop _ _, yes (⟨h, h', by omega, by omega, by rw [hn', hn]; exact hb, .inr (.inl ⟨hd, hs, by rw [hn', hn] <;> first | omega | (simp only [List.length_nil]; omega)⟩)⟩), rfl⟩
          · have hl : ¬ (0 : Int) ≤ ((0 + 1 : Nat) : Int) := hl
            repeat(first|refine Sp ?_|refine fun(_:Nat)=>?_)
            exact ⟨_, [], FinOk.drop _ _, no (fun hc => by rcases hc.2.2.2.2.2 with h | h | h; have := h.1; omega; have := h.2.2; rw [hn', hn] at this; (first | omega | (simp only [List.length_nil] at this; omega)); omega), rfl⟩
        · have hs : k = 2 := Classical.not_not.1 hs
          repeat(first|refine Sp ?_|refine fun(_:Nat)=>?_)
          exact ⟨_, [], FinOk.drop _ _, no (fun hc => by rcases hc.2.2.2.2.2 with h | h | h; have := h.1; omega; exact h.2.1 hs; omega), rfl⟩
      have hd2 : ¬ kd = 2 := hd
      repeat(first|refine Sp ?_|refine fun(_:Nat)=>?_)
      refine ⟨fun hd => ?_, fun hd => ?_⟩
      · have hd : kd = 3 := hd
        repeat(first|refine Sp ?_|refine fun(_:Nat)=>?_)
        exact ⟨_, [], FinOk.drop _ _, yes (⟨h, h', by omega, by omega, by rw [hn', hn]; exact hb, .inr (.inr hd)⟩), rfl⟩
      · have hd : ¬ kd = 3 := hd
        repeat(first|refine Sp ?_|refine fun(_:Nat)=>?_)
        exact ⟨_, [], FinOk.drop _ _, no (fun hc => by rcases hc.2.2.2.2.2 with h | h | h; have := h.1; omega; have := h.1; omega; omega), rfl⟩
    · refine ⟨_, Sub.refl _, ?_⟩
      repeat(first|refine Sp ?_|refine fun(_:Nat)=>?_)
      refine ⟨fun e => absurd rfl e, fun _ => ?_⟩
      repeat(first|refine Sp ?_|refine fun(_:Nat)=>?_)
      refine ⟨fun e => absurd rfl e, fun _ => ?_⟩
      repeat(first|refine Sp ?_|refine fun(_:Nat)=>?_)
      refine ⟨fun hk => ?_, fun hk => ?_⟩
      · have hk : k < 1 := hk
        repeat(first|refine Sp ?_|refine fun(_:Nat)=>?_)
        exact ⟨_, [], FinOk.drop _ _, no (fun hc => by have := hc.2.2.1; omega), rfl⟩
      have hk1 : ¬ k < 1 := hk
      repeat(first|refine Sp ?_|refine fun(_:Nat)=>?_)
      refine ⟨fun hk => ?_, fun hk => ?_⟩
      · have hk : (3 : Int) < k := hk
        repeat(first|refine Sp ?_|refine fun(_:Nat)=>?_)
        exact ⟨_, [], FinOk.drop _ _, no (fun hc => by have := hc.2.2.2.1; omega), rfl⟩
      have hk3 : ¬ (3 : Int) < k := hk
      repeat(first|refine Sp ?_|refine fun(_:Nat)=>?_)
      by_cases hb : beginsP (namesOf p) ([] : List ByteArray)
      case neg =>
        have c1 := begins_spec (namesOf p) ([] : List ByteArray) (by omega) (by simp)
        rw [decide_eq_false hb] at c1
        refine ACall.ret_lend (.two (.row 0 g' _ (namesOf p).length 9 1 ((namesOf p).map .str) rfl (by rw [List.length_map]; exact Nat.le_refl _)) (.nils 1)) c1 rfl ?_
        repeat(first|refine Sp ?_|refine fun(_:Nat)=>?_)
        exact ⟨_, [], FinOk.drop _ _, no (fun hc => hb (by have := hc.2.2.2.2.1; rw [(rfl : namesOf p = namesOf p), hn] at this; exact this)), rfl⟩
      have c1 := begins_spec (namesOf p) ([] : List ByteArray) (by omega) (by simp)
      rw [decide_eq_true hb] at c1
      refine ACall.ret_lend (.two (.row 0 g' _ (namesOf p).length 9 1 ((namesOf p).map .str) rfl (by rw [List.length_map]; exact Nat.le_refl _)) (.nils 1)) c1 rfl ?_
      repeat(first|refine Sp ?_|refine fun(_:Nat)=>?_)
      refine ⟨fun hd => ?_, fun hd => ?_⟩
      · have hd : kd = 1 := hd
        repeat(first|refine Sp ?_|refine fun(_:Nat)=>?_)
        refine ⟨fun hl => ?_, fun hl => ?_⟩
        · have hl : ((namesOf p).length : Int) = (0 : Int) := hl
          repeat(first|refine Sp ?_|refine fun(_:Nat)=>?_)
          exact ⟨_, [], FinOk.drop _ _, yes (⟨h, h', by omega, by omega, by rw [(rfl : namesOf p = namesOf p), hn]; exact hb, .inl ⟨hd, by rw [(rfl : namesOf p = namesOf p), hn] <;> first | omega | (simp only [List.length_nil]; omega)⟩⟩), rfl⟩
        · have hl : ¬ ((namesOf p).length : Int) = (0 : Int) := hl
          repeat(first|refine Sp ?_|refine fun(_:Nat)=>?_)
          exact ⟨_, [], FinOk.drop _ _, no (fun hc => by rcases hc.2.2.2.2.2 with h | h | h; have := h.2; rw [(rfl : namesOf p = namesOf p), hn] at this; (first | omega | (simp only [List.length_nil] at this; omega)); have := h.1; omega; omega), rfl⟩
      have hd1 : ¬ kd = 1 := hd
      repeat(first|refine Sp ?_|refine fun(_:Nat)=>?_)
      refine ⟨fun hd => ?_, fun hd => ?_⟩
      · have hd : kd = 2 := hd
        repeat(first|refine Sp ?_|refine fun(_:Nat)=>?_)
        refine ⟨fun hs => ?_, fun hs => ?_⟩
        · have hs : k ≠ 2 := hs
          repeat(first|refine Sp ?_|refine fun(_:Nat)=>?_)
          refine fun r hr => ?_
          obtain rfl : r = ((0 + 1 : Nat) : Int) := by rw [hr, IntKind.wrap_i64]; omega
          repeat(first|refine Sp ?_|refine fun(_:Nat)=>?_)
          refine ⟨fun hl => ?_, fun hl => ?_⟩
          · have hl : ((namesOf p).length : Int) ≤ ((0 + 1 : Nat) : Int) := hl
            repeat(first|refine Sp ?_|refine fun(_:Nat)=>?_)
            exact ⟨_, [], FinOk.drop _ _, yes (⟨h, h', by omega, by omega, by rw [(rfl : namesOf p = namesOf p), hn]; exact hb, .inr (.inl ⟨hd, hs, by rw [(rfl : namesOf p = namesOf p), hn] <;> first | omega | (simp only [List.length_nil]; omega)⟩)⟩), rfl⟩
          · have hl : ¬ ((namesOf p).length : Int) ≤ ((0 + 1 : Nat) : Int) := hl
            repeat(first|refine Sp ?_|refine fun(_:Nat)=>?_)
            exact ⟨_, [], FinOk.drop _ _, no (fun hc => by rcases hc.2.2.2.2.2 with h | h | h; have := h.1; omega; have := h.2.2; rw [(rfl : namesOf p = namesOf p), hn] at this; (first | omega | (simp only [List.length_nil] at this; omega)); omega), rfl⟩
        · have hs : k = 2 := Classical.not_not.1 hs
          repeat(first|refine Sp ?_|refine fun(_:Nat)=>?_)
          exact ⟨_, [], FinOk.drop _ _, no (fun hc => by rcases hc.2.2.2.2.2 with h | h | h; have := h.1; omega; exact h.2.1 hs; omega), rfl⟩
      have hd2 : ¬ kd = 2 := hd
      repeat(first|refine Sp ?_|refine fun(_:Nat)=>?_)
      refine ⟨fun hd => ?_, fun hd => ?_⟩
      · have hd : kd = 3 := hd
        repeat(first|refine Sp ?_|refine fun(_:Nat)=>?_)
        exact ⟨_, [], FinOk.drop _ _, yes (⟨h, h', by omega, by omega, by rw [(rfl : namesOf p = namesOf p), hn]; exact hb, .inr (.inr hd)⟩), rfl⟩
      · have hd : ¬ kd = 3 := hd
        repeat(first|refine Sp ?_|refine fun(_:Nat)=>?_)
        exact ⟨_, [], FinOk.drop _ _, no (fun hc => by rcases hc.2.2.2.2.2 with h | h | h; have := h.1; omega; have := h.1; omega; omega), rfl⟩
  · refine ⟨_, Sub.refl _, ?_⟩
    repeat(first|refine Sp ?_|refine fun(_:Nat)=>?_)
    refine ACall.pure _ (parse_spec p) ?_
    rintro r L' (⟨h', rfl, rfl⟩ | ⟨h', hn', rfl, rfl⟩ | ⟨h', hn', g', rfl, rfl⟩)
    · refine ⟨_, Sub.refl _, ?_⟩
      repeat(first|refine Sp ?_|refine fun(_:Nat)=>?_)
      refine ⟨fun e => absurd rfl e, fun _ => ?_⟩
      repeat(first|refine Sp ?_|refine fun(_:Nat)=>?_)
      refine ⟨fun _ => ?_, fun e => absurd h' e⟩
      repeat(first|refine Sp ?_|refine fun(_:Nat)=>?_)
      exact ⟨_, [], FinOk.drop _ _, no (fun hc => h' hc.2.1), rfl⟩
    · refine ⟨_, Sub.refl _, ?_⟩
      repeat(first|refine Sp ?_|refine fun(_:Nat)=>?_)
      refine ⟨fun e => absurd rfl e, fun _ => ?_⟩
      repeat(first|refine Sp ?_|refine fun(_:Nat)=>?_)
      refine ⟨fun e => absurd rfl e, fun _ => ?_⟩
      repeat(first|refine Sp ?_|refine fun(_:Nat)=>?_)
      refine ⟨fun hk => ?_, fun hk => ?_⟩
      · have hk : k < 1 := hk
        repeat(first|refine Sp ?_|refine fun(_:Nat)=>?_)
        exact ⟨_, [], FinOk.drop _ _, no (fun hc => by have := hc.2.2.1; omega), rfl⟩
      have hk1 : ¬ k < 1 := hk
      repeat(first|refine Sp ?_|refine fun(_:Nat)=>?_)
      refine ⟨fun hk => ?_, fun hk => ?_⟩
      · have hk : (3 : Int) < k := hk
        repeat(first|refine Sp ?_|refine fun(_:Nat)=>?_)
        exact ⟨_, [], FinOk.drop _ _, no (fun hc => by have := hc.2.2.2.1; omega), rfl⟩
      have hk3 : ¬ (3 : Int) < k := hk
      repeat(first|refine Sp ?_|refine fun(_:Nat)=>?_)
      by_cases hb : beginsP ([] : List ByteArray) (namesOf pl)
      case neg =>
        have c1 := begins_spec ([] : List ByteArray) (namesOf pl) (by simp) (by omega)
        rw [decide_eq_false hb] at c1
        refine ACall.ret_lend (.two (.nils 1) (.row 0 g _ (namesOf pl).length 9 1 ((namesOf pl).map .str) rfl (by rw [List.length_map]; exact Nat.le_refl _))) c1 rfl ?_
        repeat(first|refine Sp ?_|refine fun(_:Nat)=>?_)
        exact ⟨_, [], FinOk.drop _ _, no (fun hc => hb (by have := hc.2.2.2.2.1; rw [hn', (rfl : namesOf pl = namesOf pl)] at this; exact this)), rfl⟩
      have c1 := begins_spec ([] : List ByteArray) (namesOf pl) (by simp) (by omega)
      rw [decide_eq_true hb] at c1
      refine ACall.ret_lend (.two (.nils 1) (.row 0 g _ (namesOf pl).length 9 1 ((namesOf pl).map .str) rfl (by rw [List.length_map]; exact Nat.le_refl _))) c1 rfl ?_
      repeat(first|refine Sp ?_|refine fun(_:Nat)=>?_)
      refine ⟨fun hd => ?_, fun hd => ?_⟩
      · have hd : kd = 1 := hd
        repeat(first|refine Sp ?_|refine fun(_:Nat)=>?_)
        refine ⟨fun hl => ?_, fun hl => ?_⟩
        · have hl : (0 : Int) = ((namesOf pl).length : Int) := hl
          repeat(first|refine Sp ?_|refine fun(_:Nat)=>?_)
          exact ⟨_, [], FinOk.drop _ _, yes (⟨h, h', by omega, by omega, by rw [hn', (rfl : namesOf pl = namesOf pl)]; exact hb, .inl ⟨hd, by rw [hn', (rfl : namesOf pl = namesOf pl)] <;> first | omega | (simp only [List.length_nil]; omega)⟩⟩), rfl⟩
        · have hl : ¬ (0 : Int) = ((namesOf pl).length : Int) := hl
          repeat(first|refine Sp ?_|refine fun(_:Nat)=>?_)
          exact ⟨_, [], FinOk.drop _ _, no (fun hc => by rcases hc.2.2.2.2.2 with h | h | h; have := h.2; rw [hn', (rfl : namesOf pl = namesOf pl)] at this; (first | omega | (simp only [List.length_nil] at this; omega)); have := h.1; omega; omega), rfl⟩
      have hd1 : ¬ kd = 1 := hd
      repeat(first|refine Sp ?_|refine fun(_:Nat)=>?_)
      refine ⟨fun hd => ?_, fun hd => ?_⟩
      · have hd : kd = 2 := hd
        repeat(first|refine Sp ?_|refine fun(_:Nat)=>?_)
        refine ⟨fun hs => ?_, fun hs => ?_⟩
        · have hs : k ≠ 2 := hs
          repeat(first|refine Sp ?_|refine fun(_:Nat)=>?_)
          refine fun r hr => ?_
          obtain rfl : r = (((namesOf pl).length + 1 : Nat) : Int) := by rw [hr, IntKind.wrap_i64]; omega
          repeat(first|refine Sp ?_|refine fun(_:Nat)=>?_)
          refine ⟨fun hl => ?_, fun hl => ?_⟩
          · have hl : (0 : Int) ≤ (((namesOf pl).length + 1 : Nat) : Int) := hl
            repeat(first|refine Sp ?_|refine fun(_:Nat)=>?_)
            exact ⟨_, [], FinOk.drop _ _, yes (⟨h, h', by omega, by omega, by rw [hn', (rfl : namesOf pl = namesOf pl)]; exact hb, .inr (.inl ⟨hd, hs, by rw [hn', (rfl : namesOf pl = namesOf pl)] <;> first | omega | (simp only [List.length_nil]; omega)⟩)⟩), rfl⟩
          · have hl : ¬ (0 : Int) ≤ (((namesOf pl).length + 1 : Nat) : Int) := hl
            repeat(first|refine Sp ?_|refine fun(_:Nat)=>?_)
            exact ⟨_, [], FinOk.drop _ _, no (fun hc => by rcases hc.2.2.2.2.2 with h | h | h; have := h.1; omega; have := h.2.2; rw [hn', (rfl : namesOf pl = namesOf pl)] at this; (first | omega | (simp only [List.length_nil] at this; omega)); omega), rfl⟩
        · have hs : k = 2 := Classical.not_not.1 hs
          repeat(first|refine Sp ?_|refine fun(_:Nat)=>?_)
          exact ⟨_, [], FinOk.drop _ _, no (fun hc => by rcases hc.2.2.2.2.2 with h | h | h; have := h.1; omega; exact h.2.1 hs; omega), rfl⟩
      have hd2 : ¬ kd = 2 := hd
      repeat(first|refine Sp ?_|refine fun(_:Nat)=>?_)
      refine ⟨fun hd => ?_, fun hd => ?_⟩
      · have hd : kd = 3 := hd
        repeat(first|refine Sp ?_|refine fun(_:Nat)=>?_)
        exact ⟨_, [], FinOk.drop _ _, yes (⟨h, h', by omega, by omega, by rw [hn', (rfl : namesOf pl = namesOf pl)]; exact hb, .inr (.inr hd)⟩), rfl⟩
      · have hd : ¬ kd = 3 := hd
        repeat(first|refine Sp ?_|refine fun(_:Nat)=>?_)
        exact ⟨_, [], FinOk.drop _ _, no (fun hc => by rcases hc.2.2.2.2.2 with h | h | h; have := h.1; omega; have := h.1; omega; omega), rfl⟩
    · refine ⟨.tuple [.sl 1 g' _ _, .int .i64 0], Sub.tuples ⟨Sub.sl _ 1 _ _ _, Sub.refl _, trivial⟩, ?_⟩
      repeat(first|refine Sp ?_|refine fun(_:Nat)=>?_)
      refine ⟨fun e => absurd rfl e, fun _ => ?_⟩
      repeat(first|refine Sp ?_|refine fun(_:Nat)=>?_)
      refine ⟨fun e => absurd rfl e, fun _ => ?_⟩
      repeat(first|refine Sp ?_|refine fun(_:Nat)=>?_)
      refine ⟨fun hk => ?_, fun hk => ?_⟩
      · have hk : k < 1 := hk
        repeat(first|refine Sp ?_|refine fun(_:Nat)=>?_)
        exact ⟨_, [], FinOk.drop _ _, no (fun hc => by have := hc.2.2.1; omega), rfl⟩
      have hk1 : ¬ k < 1 := hk
      repeat(first|refine Sp ?_|refine fun(_:Nat)=>?_)
      refine ⟨fun hk => ?_, fun hk => ?_⟩
      · have hk : (3 : Int) < k := hk
        repeat(first|refine Sp ?_|refine fun(_:Nat)=>?_)
        exact ⟨_, [], FinOk.drop _ _, no (fun hc => by have := hc.2.2.2.1; omega), rfl⟩
      have hk3 : ¬ (3 : Int) < k := hk
      repeat(first|refine Sp ?_|refine fun(_:Nat)=>?_)
      by_cases hb : beginsP (namesOf p) (namesOf pl)
      case neg =>
        have c1 := begins_spec (namesOf p) (namesOf pl) (by omega) (by omega)
        rw [decide_eq_false hb] at c1
        refine ACall.ret_lend (.two (.row 1 g' _ (namesOf p).length 9 1 ((namesOf p).map .str) rfl (by rw [List.length_map]; exact Nat.le_refl _)) (.row 0 g _ (namesOf pl).length 9 1 ((namesOf pl).map .str) rfl (by rw [List.length_map]; exact Nat.le_refl _))) c1 rfl ?_
        repeat(first|refine Sp ?_|refine fun(_:Nat)=>?_)
        exact ⟨_, [], FinOk.drop _ _, no (fun hc => hb (by have := hc.2.2.2.2.1; rw [(rfl : namesOf p = namesOf p), (rfl : namesOf pl = namesOf pl)] at this; exact this)), rfl⟩
      have c1 := begins_spec (namesOf p) (namesOf pl) (by omega) (by omega)
      rw [decide_eq_true hb] at c1
      refine ACall.ret_lend (.two (.row 1 g' _ (namesOf p).length 9 1 ((namesOf p).map .str) rfl (by rw [List.length_map]; exact Nat.le_refl _)) (.row 0 g _ (namesOf pl).length 9 1 ((namesOf pl).map .str) rfl (by rw [List.length_map]; exact Nat.le_refl _))) c1 rfl ?_
      repeat(first|refine Sp ?_|refine fun(_:Nat)=>?_)
      refine ⟨fun hd => ?_, fun hd => ?_⟩
      · have hd : kd = 1 := hd
        repeat(first|refine Sp ?_|refine fun(_:Nat)=>?_)
        refine ⟨fun hl => ?_, fun hl => ?_⟩
        · have hl : ((namesOf p).length : Int) = ((namesOf pl).length : Int) := hl
          repeat(first|refine Sp ?_|refine fun(_:Nat)=>?_)
          exact ⟨_, [], FinOk.drop _ _, yes (⟨h, h', by omega, by omega, by rw [(rfl : namesOf p = namesOf p), (rfl : namesOf pl = namesOf pl)]; exact hb, .inl ⟨hd, by rw [(rfl : namesOf p = namesOf p), (rfl : namesOf pl = namesOf pl)] <;> first | omega | (simp only [List.length_nil]; omega)⟩⟩), rfl⟩
        · have hl : ¬ ((namesOf p).length : Int) = ((namesOf pl).length : Int) := hl
          repeat(first|refine Sp ?_|refine fun(_:Nat)=>?_)
          exact ⟨_, [], FinOk.drop _ _, no (fun hc => by rcases hc.2.2.2.2.2 with h | h | h; have := h.2; rw [(rfl : namesOf p = namesOf p), (rfl : namesOf pl = namesOf pl)] at this; (first | omega | (simp only [List.length_nil] at this; omega)); have := h.1; omega; omega), rfl⟩
      have hd1 : ¬ kd = 1 := hd
      repeat(first|refine Sp ?_|refine fun(_:Nat)=>?_)
      refine ⟨fun hd => ?_, fun hd => ?_⟩
      · have hd : kd = 2 := hd
        repeat(first|refine Sp ?_|refine fun(_:Nat)=>?_)
        refine ⟨fun hs => ?_, fun hs => ?_⟩
        · have hs : k ≠ 2 := hs
          repeat(first|refine Sp ?_|refine fun(_:Nat)=>?_)
          refine fun r hr => ?_
          obtain rfl : r = (((namesOf pl).length + 1 : Nat) : Int) := by rw [hr, IntKind.wrap_i64]; omega
          repeat(first|refine Sp ?_|refine fun(_:Nat)=>?_)
          refine ⟨fun hl => ?_, fun hl => ?_⟩
          · have hl : ((namesOf p).length : Int) ≤ (((namesOf pl).length + 1 : Nat) : Int) := hl
            repeat(first|refine Sp ?_|refine fun(_:Nat)=>?_)
            exact ⟨_, [], FinOk.drop _ _, yes (⟨h, h', by omega, by omega, by rw [(rfl : namesOf p = namesOf p), (rfl : namesOf pl = namesOf pl)]; exact hb, .inr (.inl ⟨hd, hs, by rw [(rfl : namesOf p = namesOf p), (rfl : namesOf pl = namesOf pl)] <;> first | omega | (simp only [List.length_nil]; omega)⟩)⟩), rfl⟩
          · have hl : ¬ ((namesOf p).length : Int) ≤ (((namesOf pl).length + 1 : Nat) : Int) := hl
            repeat(first|refine Sp ?_|refine fun(_:Nat)=>?_)
            exact ⟨_, [], FinOk.drop _ _, no (fun hc => by rcases hc.2.2.2.2.2 with h | h | h; have := h.1; omega; have := h.2.2; rw [(rfl : namesOf p = namesOf p), (rfl : namesOf pl = namesOf pl)] at this; (first | omega | (simp only [List.length_nil] at this; omega)); omega), rfl⟩
        · have hs : k = 2 := Classical.not_not.1 hs
          repeat(first|refine Sp ?_|refine fun(_:Nat)=>?_)
          exact ⟨_, [], FinOk.drop _ _, no (fun hc => by rcases hc.2.2.2.2.2 with h | h | h; have := h.1; omega; exact h.2.1 hs; omega), rfl⟩
      have hd2 : ¬ kd = 2 := hd
      repeat(first|refine Sp ?_|refine fun(_:Nat)=>?_)
      refine ⟨fun hd => ?_, fun hd => ?_⟩
      · have hd : kd = 3 := hd
        repeat(first|refine Sp ?_|refine fun(_:Nat)=>?_)
        exact ⟨_, [], FinOk.drop _ _, yes (⟨h, h', by omega, by omega, by rw [(rfl : namesOf p = namesOf p), (rfl : namesOf pl = namesOf pl)]; exact hb, .inr (.inr hd)⟩), rfl⟩
      · have hd : ¬ kd = 3 := hd
        repeat(first|refine Sp ?_|refine fun(_:Nat)=>?_)
        exact ⟨_, [], FinOk.drop _ _, no (fun hc => by rcases hc.2.2.2.2.2 with h | h | h; have := h.1; omega; have := h.1; omega; omega), rfl⟩

end Go.Proofs.YtgpbppkmmlclfaaDoor.HBT
/- The trie's small functions: numbers, tags, the order of tags. -/
namespace Go.Proofs.YtgpbppkmmlclfaaDoor.HBT
open Go Go.Proofs.YtgpbppkmmlclfaaDoor.HB Go.RowKit
set_option maxRecDepth 8000

structure Wt where
  id : Int
  p : ByteArray
  k : Int
  f : Int
deriving DecidableEq
structure On where
  s : Int
  w : Wt
deriving DecidableEq
abbrev encW (x : Wt) : AV := .agg [.int .i64 x.id, .str x.p, .int .i64 x.k, .int .i64 x.f]
abbrev encH (x : On) : AV := .agg [.int .i64 x.s, .int .i64 x.w.id, .str x.w.p, .int .i64 x.w.k, .int .i64 x.w.f]
abbrev tgC (s i : Int) : List AV := [.int .i64 s, .int .i64 i]
abbrev encT (x : On) : AV := .agg (tgC x.s x.w.id)
abbrev tW : TypeId := 32
abbrev tH : TypeId := 74
abbrev tG : TypeId := 37
abbrev tI : TypeId := 69
abbrev tT : TypeId := 72

theorem number_spec (v m : Int) : FnSpec C 31 [.int .i64 v, .int .i64 m] [] (fun r L' => r = .bool (decide (m ≤ v ∧ v ≤ 2147483647)) ∧ L' = []) := by
  refine FnSpec.start C_ok Tryd.func31 rfl rfl Tryd.ntmps31 ?_
  repeat(first|refine Sc ?_|refine fun(_:Nat)=>?_)
  refine ⟨fun h => ?_, fun h => ?_⟩
  · have h : m ≤ v := h
    repeat(first|refine Sc ?_|refine fun(_:Nat)=>?_)
    refine ⟨fun h2 => ?_, fun h2 => ?_⟩
    · have h2 : v ≤ 2147483647 := h2
      repeat(first|refine Sc ?_|refine fun(_:Nat)=>?_)
      exact ⟨_, [], FinOk.drop _ _, congrArg AV.bool (decide_eq_true (show m ≤ v ∧ v ≤ 2147483647 from ⟨h, h2⟩)).symm, rfl⟩
    · have h2 : ¬ v ≤ 2147483647 := h2
      repeat(first|refine Sc ?_|refine fun(_:Nat)=>?_)
      exact ⟨_, [], FinOk.drop _ _, congrArg AV.bool (decide_eq_false (p := m ≤ v ∧ v ≤ 2147483647) fun e => h2 e.2).symm, rfl⟩
  · have h : ¬ m ≤ v := h
    repeat(first|refine Sc ?_|refine fun(_:Nat)=>?_)
    exact ⟨_, [], FinOk.drop _ _, congrArg AV.bool (decide_eq_false (p := m ≤ v ∧ v ≤ 2147483647) fun e => h e.1).symm, rfl⟩
theorem isNaN_specD (v : Int) : FnSpec CD 70 [.int .i64 v] [] (fun r L' => r = .bool false ∧ L' = []) := by
  refine FnSpec.start CD_ok Tryd.func70 rfl rfl Tryd.ntmps70 ?_
  repeat(first|refine Sp ?_|refine fun(_:Nat)=>?_)
  refine ⟨fun h => absurd rfl h, fun _ => ?_⟩
  repeat(first|refine Sp ?_|refine fun(_:Nat)=>?_)
  exact ⟨_, [], FinOk.drop _ _, rfl, rfl⟩
def cmpI (a b : Int) : Int := if a < b then -1 else if b < a then 1 else 0
theorem compare_specD (a b : Int) : FnSpec CD 50 [.int .i64 a, .int .i64 b] [] (fun r L' => r = .int .i64 (cmpI a b) ∧ L' = []) := by
  refine FnSpec.start CD_ok Tryd.func50 rfl rfl Tryd.ntmps50 ?_
  repeat(first|refine Sp ?_|refine fun(_:Nat)=>?_)
  refine ACall.ret (isNaN_specD a) ?_
  repeat(first|refine Sp ?_|refine fun(_:Nat)=>?_)
  refine ACall.ret (isNaN_specD b) ?_
  repeat(first|refine Sp ?_|refine fun(_:Nat)=>?_)
  refine ⟨fun h => ?_, fun h => ?_⟩
  · have h : a < b := h
    repeat(first|refine Sp ?_|refine fun(_:Nat)=>?_)
    exact ⟨_, [], FinOk.drop _ _, congrArg (AV.int .i64) (show -1 = cmpI a b by unfold cmpI; rw [if_pos h]), rfl⟩
  have h : ¬ a < b := h
  repeat(first|refine Sp ?_|refine fun(_:Nat)=>?_)
  refine ⟨fun h2 => ?_, fun h2 => ?_⟩
  · have h2 : b < a := h2
    repeat(first|refine Sp ?_|refine fun(_:Nat)=>?_)
    exact ⟨_, [], FinOk.drop _ _, congrArg (AV.int .i64) (show 1 = cmpI a b by unfold cmpI; rw [if_neg h, if_pos h2]), rfl⟩
  have h2 : ¬ b < a := h2
  repeat(first|refine Sp ?_|refine fun(_:Nat)=>?_)
  exact ⟨_, [], FinOk.drop _ _, congrArg (AV.int .i64) (show 0 = cmpI a b by unfold cmpI; rw [if_neg h, if_neg h2]), rfl⟩
theorem compare_spec (a b : Int) : FnSpec C 50 [.int .i64 a, .int .i64 b] [] (fun r L' => r = .int .i64 (cmpI a b) ∧ L' = []) := (compare_specD a b).undraw
theorem or_specD (a b : Int) : FnSpec CD 43 [.ro 1 [.int .i64 a, .int .i64 b] 2] [] (fun r L' => r = .int .i64 (if a = 0 then b else a) ∧ L' = []) := by
  refine FnSpec.start CD_ok Tryd.func43 rfl rfl Tryd.ntmps43 ?_
  repeat(first|refine Sp ?_|refine fun(_:Nat)=>?_)
  refine Run.loop (fun k env L => ∃ i : Nat, k = 2 - i ∧ i ≤ 2 ∧ (i = 0 ∨ a = 0) ∧ (i ≤ 1 ∨ b = 0) ∧ env = [.ro 1 [.int .i64 a, .int .i64 b] 2, .junk, .int .i64 0, .int .i64 0, .junk, .junk, .ro 1 [.int .i64 a, .int .i64 b] 2, .int .i64 (2 : Nat), .int .i64 i, .junk, .junk, .junk, .junk, .junk, .junk, .junk, .junk, .junk] ∧ L = []) 2
    [.ro 1 [.int .i64 a, .int .i64 b] 2, .junk, .int .i64 0, .int .i64 0, .junk, .junk, .ro 1 [.int .i64 a, .int .i64 b] 2, .int .i64 (2 : Nat), .int .i64 (0 : Nat), .junk, .junk, .junk, .junk, .junk, .junk, .junk, .junk, .junk] ?_ ⟨0, by omega, by omega, .inl rfl, .inl (by omega), rfl, rfl⟩ ?_
  · repeat(first|exact trivial|refine ⟨.inl rfl, ?_⟩|refine ⟨.inr rfl, ?_⟩)
  rintro k env L ⟨i, rfl, hi, h0, h1, rfl, rfl⟩
  repeat(first|refine Sp ?_|refine fun(_:Nat)=>?_)
  refine ⟨fun h => ?_, fun h => ?_⟩
  · have h : (i : Int) < (2 : Nat) := h
    have hc : i = 0 ∨ i = 1 := by omega
    rcases hc with rfl | rfl
    · repeat(first|refine Sp ?_|refine fun(_:Nat)=>?_)
      refine ⟨.int .i64 a, rfl, ?_⟩
      repeat(first|refine Sp ?_|refine fun(_:Nat)=>?_)
      refine ⟨fun hne => ?_, fun he => ?_⟩
      · have hne : a ≠ 0 := hne
        repeat(first|refine Sp ?_|refine fun(_:Nat)=>?_)
        exact ⟨_, [], FinOk.drop _ _, congrArg (AV.int .i64) (if_neg hne).symm, rfl⟩
      · have he : a = 0 := Decidable.of_not_not he
        repeat(first|refine Sp ?_|refine fun(_:Nat)=>?_)
        refine fun r hr => ?_
        obtain rfl := add1 hr (by omega)
        repeat(first|refine Sp ?_|refine fun(_:Nat)=>?_)
        refine Cont.lp ?_
        refine ⟨1, [.ro 1 [.int .i64 a, .int .i64 b] 2, .junk, .int .i64 0, .int .i64 0, .junk, .junk, .ro 1 [.int .i64 a, .int .i64 b] 2, .int .i64 (2 : Nat), .int .i64 (1 : Nat), .junk, .junk, .junk, .junk, .junk, .junk, .junk, .junk, .junk], 99, by omega, ?_, ⟨1, rfl, by omega, .inr he, .inl (by omega), rfl, rfl⟩⟩
        repeat(first|exact trivial|refine ⟨.inl rfl, ?_⟩|refine ⟨.inr rfl, ?_⟩)
    · have ha : a = 0 := h0.resolve_left (by omega)
      repeat(first|refine Sp ?_|refine fun(_:Nat)=>?_)
      refine ⟨.int .i64 b, rfl, ?_⟩
      repeat(first|refine Sp ?_|refine fun(_:Nat)=>?_)
      refine ⟨fun hne => ?_, fun he => ?_⟩
      · have hne : b ≠ 0 := hne
        repeat(first|refine Sp ?_|refine fun(_:Nat)=>?_)
        exact ⟨_, [], FinOk.drop _ _, congrArg (AV.int .i64) (if_pos ha).symm, rfl⟩
      · have he : b = 0 := Decidable.of_not_not he
        repeat(first|refine Sp ?_|refine fun(_:Nat)=>?_)
        refine fun r hr => ?_
        obtain rfl := add1 hr (by omega)
        repeat(first|refine Sp ?_|refine fun(_:Nat)=>?_)
        refine Cont.lp ?_
        refine ⟨0, [.ro 1 [.int .i64 a, .int .i64 b] 2, .junk, .int .i64 0, .int .i64 0, .junk, .junk, .ro 1 [.int .i64 a, .int .i64 b] 2, .int .i64 (2 : Nat), .int .i64 (2 : Nat), .junk, .junk, .junk, .junk, .junk, .junk, .junk, .junk, .junk], 99, by omega, ?_, ⟨2, rfl, by omega, .inr ha, .inr he, rfl, rfl⟩⟩
        repeat(first|exact trivial|refine ⟨.inl rfl, ?_⟩|refine ⟨.inr rfl, ?_⟩)
  · have h : ¬ (i : Int) < (2 : Nat) := h
    have ha : a = 0 := h0.resolve_left (by omega)
    have hb : b = 0 := h1.resolve_left (by omega)
    repeat(first|refine Sp ?_|refine fun(_:Nat)=>?_)
    exact ⟨_, [], FinOk.drop _ _, congrArg (AV.int .i64) (show 0 = if a = 0 then b else a by rw [if_pos ha, hb]), rfl⟩
theorem tag_specD (x : On) : FnSpec CD 25 [encH x] [] (fun r L' => r = encT x ∧ L' = []) := by
  refine FnSpec.start CD_ok Tryd.func25 rfl rfl Tryd.ntmps25 ?_
  repeat(first|refine Sp ?_|refine fun(_:Nat)=>?_)
  exact ⟨_, [], FinOk.drop _ _, rfl, rfl⟩
theorem tag_spec (x : On) : FnSpec C 25 [encH x] [] (fun r L' => r = encT x ∧ L' = []) := (tag_specD x).undraw
def tagC (s i s' i' : Int) : Int := if cmpI s s' = 0 then cmpI i i' else cmpI s s'
theorem order_tagD (s i s' i' : Int) : FnSpec CD 27 [.agg (tgC s i), .agg (tgC s' i')] [] (fun r L' => r = .int .i64 (tagC s i s' i') ∧ L' = []) := by
  refine FnSpec.start CD_ok Tryd.func27 rfl rfl Tryd.ntmps27 ?_
  repeat(first|refine Za ?_|refine Zb ?_|refine Run.textA CD_ok (aopC_sound CD_ok) ?_|refine Zy rfl ?_|refine Z2 rfl ?_|refine Z3 ?_|refine fun(_:Nat)=>?_|refine Zn rfl ?_|refine Zo rfl ?_)
  refine Run.drawnK CD_ok (aopC_sound CD_ok) [0, 1] [0, 1, 2, 3, 5, 6, 7, 8, 4, 9, 10, 11, 12] (by kernel_rfl) ?_
  repeat(first|refine Za ?_|refine Zb ?_|refine Zd rfl ?_|refine Ze ?_|refine Run.textA CD_ok (aopC_sound CD_ok) ?_|refine Zy rfl ?_|refine Z2 rfl ?_|refine Z3 ?_|refine fun(_:Nat)=>?_|refine Zn rfl ?_|refine Zo rfl ?_)
  refine ACallT.ok (ACall.ret (compare_specD s s') ?_)
  repeat(first|refine Za ?_|refine Zb ?_|refine Zd rfl ?_|refine Ze ?_|refine Run.textA CD_ok (aopC_sound CD_ok) ?_|refine Zy rfl ?_|refine Z2 rfl ?_|refine Z3 ?_|refine fun(_:Nat)=>?_|refine Zn rfl ?_|refine Zo rfl ?_)
  refine ACallT.ok (ACall.ret (compare_specD i i') ?_)
  repeat(first|refine Za ?_|refine Zb ?_|refine Zd rfl ?_|refine Ze ?_|refine Run.textA CD_ok (aopC_sound CD_ok) ?_|refine Zy rfl ?_|refine Z2 rfl ?_|refine Z3 ?_|refine fun(_:Nat)=>?_|refine Zn rfl ?_|refine Zo rfl ?_)
  rename_i g5
  refine ACallT.ok (ACall.ret_lend ?_ (or_specD (cmpI s s') (cmpI i i')) rfl ?_)
  · exact .one (.row 2 g5 2 2 3 1 [.int .i64 (cmpI s s'), .int .i64 (cmpI i i')] rfl (by simp))
  repeat(first|refine Za ?_|refine Zb ?_|refine Zd rfl ?_|refine Ze ?_|refine Run.textA CD_ok (aopC_sound CD_ok) ?_|refine Zy rfl ?_|refine Z2 rfl ?_|refine Z3 ?_|refine fun(_:Nat)=>?_|refine Zn rfl ?_|refine Zo rfl ?_)
  exact ⟨_, _, FinOk.drop _ _, rfl, rfl⟩
def heldC (x y : On) : Int := if orderB x.w.p y.w.p = 0 then tagC x.s x.w.id y.s y.w.id else orderB x.w.p y.w.p
theorem held_lessD (x y : On) (hx : x.w.p.size ≤ 9223372036854775807) : FnSpec CD 42 [encH x, encH y] [] (fun r L' => r = .int .i64 (heldC x y) ∧ L' = []) := by
  refine FnSpec.start CD_ok Tryd.func42 rfl rfl Tryd.ntmps42 ?_
  repeat(first|refine Za ?_|refine Zb ?_|refine Run.textA CD_ok (aopC_sound CD_ok) ?_|refine Zy rfl ?_|refine Z2 rfl ?_|refine Z3 ?_|refine fun(_:Nat)=>?_|refine Zn rfl ?_|refine Zo rfl ?_)
  refine Run.drawnK CD_ok (aopC_sound CD_ok) [0, 1] [0, 1, 2, 3, 4, 5, 7, 9, 6, 8, 10, 11, 12, 13, 14] (by kernel_rfl) ?_
  repeat(first|refine Za ?_|refine Zb ?_|refine Zd rfl ?_|refine Ze ?_|refine Run.textA CD_ok (aopC_sound CD_ok) ?_|refine Zy rfl ?_|refine Z2 rfl ?_|refine Z3 ?_|refine fun(_:Nat)=>?_|refine Zn rfl ?_|refine Zo rfl ?_)
  refine ACallT.ok (ACall.ret (order_specD x.w.p y.w.p hx) ?_)
  repeat(first|refine Za ?_|refine Zb ?_|refine Zd rfl ?_|refine Ze ?_|refine Run.textA CD_ok (aopC_sound CD_ok) ?_|refine Zy rfl ?_|refine Z2 rfl ?_|refine Z3 ?_|refine fun(_:Nat)=>?_|refine Zn rfl ?_|refine Zo rfl ?_)
  refine ACallT.ok (ACall.ret (tag_specD x) ?_)
  repeat(first|refine Za ?_|refine Zb ?_|refine Zd rfl ?_|refine Ze ?_|refine Run.textA CD_ok (aopC_sound CD_ok) ?_|refine Zy rfl ?_|refine Z2 rfl ?_|refine Z3 ?_|refine fun(_:Nat)=>?_|refine Zn rfl ?_|refine Zo rfl ?_)
  refine ACallT.ok (ACall.ret (tag_specD y) ?_)
  repeat(first|refine Za ?_|refine Zb ?_|refine Zd rfl ?_|refine Ze ?_|refine Run.textA CD_ok (aopC_sound CD_ok) ?_|refine Zy rfl ?_|refine Z2 rfl ?_|refine Z3 ?_|refine fun(_:Nat)=>?_|refine Zn rfl ?_|refine Zo rfl ?_)
  refine ACallT.ok (ACall.ret (order_tagD x.s x.w.id y.s y.w.id) ?_)
  repeat(first|refine Za ?_|refine Zb ?_|refine Zd rfl ?_|refine Ze ?_|refine Run.textA CD_ok (aopC_sound CD_ok) ?_|refine Zy rfl ?_|refine Z2 rfl ?_|refine Z3 ?_|refine fun(_:Nat)=>?_|refine Zn rfl ?_|refine Zo rfl ?_)
  rename_i g5
  refine ACallT.ok (ACall.ret_lend ?_ (or_specD (orderB x.w.p y.w.p) (tagC x.s x.w.id y.s y.w.id)) rfl ?_)
  · exact .one (.row 2 g5 2 2 3 1 [.int .i64 (orderB x.w.p y.w.p), .int .i64 (tagC x.s x.w.id y.s y.w.id)] rfl (by simp))
  repeat(first|refine Za ?_|refine Zb ?_|refine Zd rfl ?_|refine Ze ?_|refine Run.textA CD_ok (aopC_sound CD_ok) ?_|refine Zy rfl ?_|refine Z2 rfl ?_|refine Z3 ?_|refine fun(_:Nat)=>?_|refine Zn rfl ?_|refine Zo rfl ?_)
  exact ⟨_, _, FinOk.drop _ _, rfl, rfl⟩
def LN {α : Type} (e : α → AV) (t : TypeId) (sz : Nat) (k : Nat) (l : List α) (v : AV) (g : Nat) (o : AObj) : Prop := (l = [] ∧ v = .nils ∧ o = .dead) ∨ (∃ Cp, v = .sl k g Cp l.length ∧ o = .row t sz Cp (l.map e))
theorem findOne_spec (x : Wt) (i : Int) : FnSpec C 52 [encW x, .int .i64 i] [] (fun r L' => r = .int .i64 (cmpI x.id i) ∧ L' = []) := by
  refine FnSpec.start C_ok Tryd.func52 rfl rfl Tryd.ntmps52 ?_
  repeat(first|refine Sc ?_|refine fun(_:Nat)=>?_)
  refine ACallT.ok (ACall.ret (compare_spec x.id i) ?_)
  repeat(first|refine Sc ?_|refine fun(_:Nat)=>?_)
  exact ⟨_, [], FinOk.drop _ _, rfl, rfl⟩
def SortedW (l : List Wt) : Prop := l.Pairwise fun a b => a.id < b.id
abbrev rdW (l : List Wt) : AV := .ro 4 (l.map encW) l.length
def posW (l : List Wt) (i : Int) : Nat := (l.filter fun x => x.id < i).length
theorem filter_cut {l : List Wt} {i : Int} {a : Nat} (ha : a ≤ l.length) (h1 : ∀ x ∈ l.take a, x.id < i) (h2 : ∀ x ∈ l.drop a, ¬ x.id < i) : posW l i = a := by
  unfold posW
  have e : l.filter (fun x => decide (x.id < i)) = l.take a := by
    conv => lhs; rw [← List.take_append_drop a l]
    rw [List.filter_append, List.filter_eq_self.2 (fun x hx => by simpa using h1 x hx), List.filter_eq_nil_iff.2 (fun x hx => by simpa using h2 x hx), List.append_nil]
  rw [e, List.length_take]; omega
theorem map_at {α : Type} (e : α → AV) {l : List α} {i : Nat} {x : α} (h : l[i]? = some x) : (l.map e)[i]? = some (e x) := by rw [List.getElem?_map, h]; rfl
theorem sortedW_at {l : List Wt} (hs : SortedW l) {i j : Nat} {x y : Wt} (hx : l[i]? = some x) (hy : l[j]? = some y) (h : i < j) : x.id < y.id := by
  obtain ⟨hi, rfl⟩ := List.getElem?_eq_some_iff.1 hx
  obtain ⟨hj, rfl⟩ := List.getElem?_eq_some_iff.1 hy
  exact List.pairwise_iff_getElem.1 hs i j hi hj h
theorem cmpI_neg {a b : Int} : cmpI a b < 0 ↔ a < b := by unfold cmpI; split <;> (try split) <;> omega
theorem cmpI_zero {a b : Int} : cmpI a b = 0 ↔ a = b := by unfold cmpI; split <;> (try split) <;> omega
theorem search_spec (l : List Wt) (hl : l.length ≤ 1000) (hs : SortedW l) (i : Int) : FnSpec C 51 [rdW l, .int .i64 i, .any (.func (.func 52) #[] #[])] []
    (fun r L' => r = .tuple [.int .i64 (posW l i : Nat), .bool (decide (∃ x ∈ l, x.id = i))] ∧ L' = []) := by
  refine FnSpec.start C_ok Tryd.func51 rfl rfl Tryd.ntmps51 ?_
  repeat(first|refine Sc ?_|refine fun(_:Nat)=>?_)
  refine Run.loop (fun k env L => ∃ a b : Nat, k = b - a ∧ a ≤ b ∧ b ≤ l.length ∧ (∀ x ∈ l.take a, x.id < i) ∧ (∀ x ∈ l.drop b, ¬ x.id < i) ∧ env = [rdW l, .int .i64 i, .any (.func (.func 52) #[] #[]), .junk, .junk, .junk, .int .i64 0, .bool false, .int .i64 l.length, .int .i64 a, .int .i64 b, .junk, .junk, .junk, .junk, .junk, .junk, .junk, .junk, .junk, .junk, .junk, .junk, .junk, .junk, .junk, .junk, .junk, .junk, .junk, .junk, .junk, .junk, .junk, .junk, .junk, .junk, .junk, .junk, .junk, .junk, .junk, .junk, .junk, .junk, .junk, .junk, .junk, .junk] ∧ L = []) l.length
    [rdW l, .int .i64 i, .any (.func (.func 52) #[] #[]), .junk, .junk, .junk, .int .i64 0, .bool false, .int .i64 l.length, .int .i64 (0 : Nat), .int .i64 l.length, .junk, .junk, .junk, .junk, .junk, .junk, .junk, .junk, .junk, .junk, .junk, .junk, .junk, .junk, .junk, .junk, .junk, .junk, .junk, .junk, .junk, .junk, .junk, .junk, .junk, .junk, .junk, .junk, .junk, .junk, .junk, .junk, .junk, .junk, .junk, .junk, .junk, .junk] ?_ ⟨0, l.length, by omega, by omega, Nat.le_refl _, by simp, by simp, rfl, rfl⟩ ?_
  · repeat(first|exact trivial|refine ⟨.inl rfl, ?_⟩|refine ⟨.inr rfl, ?_⟩)
  rintro k env L ⟨a, b, rfl, hab, hb, h1, h2, rfl, rfl⟩
  repeat(first|refine Sc ?_|refine fun(_:Nat)=>?_)
  refine ⟨fun h => ?_, fun h => ?_⟩
  · have h : (a : Int) < (b : Int) := h
    repeat(first|refine Sc ?_|refine fun(_:Nat)=>?_)
    refine fun r hr => ?_
    obtain rfl : r = ((a + b : Nat) : Int) := by rw [hr, IntKind.wrap_i64]; omega
    repeat(first|refine Sc ?_|refine fun(_:Nat)=>?_)
    refine fun r hr => ?_
    obtain rfl : r = ((a + b : Nat) : Int) := by rw [hr]; simp [IntKind.wrap, IntKind.signed, IntKind.bits]; omega
    repeat(first|refine Sc ?_|refine fun(_:Nat)=>?_)
    obtain ⟨m, hm⟩ : ∃ m : Nat, m = (a + b) / 2 := ⟨_, rfl⟩
    refine fun r hr => ?_
    obtain rfl : r = (m : Int) := by
      rw [hr, show (2 : Int) ^ min (Int.toNat 1) IntKind.u64.bits = 2 from rfl, Int.fdiv_eq_ediv_of_nonneg _ (by omega)]
      omega
    repeat(first|refine Sc ?_|refine fun(_:Nat)=>?_)
    refine fun r hr => ?_
    obtain rfl : r = (m : Int) := by rw [hr, IntKind.wrap_i64]; omega
    obtain ⟨x, ex⟩ : ∃ x, l[m]? = some x := ⟨_, List.getElem?_eq_getElem (by omega)⟩
    repeat(first|refine Sc ?_|refine fun(_:Nat)=>?_)
    refine ⟨show (m : Int) < (l.length : Int) by omega, encW x, map_at encW ex, ?_⟩
    repeat(first|refine Sc ?_|refine fun(_:Nat)=>?_)
    refine ACallT.ok (ACall.ret (findOne_spec x i) ?_)
    repeat(first|refine Sc ?_|refine fun(_:Nat)=>?_)
    refine ⟨fun h3 => ?_, fun h3 => ?_⟩
    · have h3 : x.id < i := cmpI_neg.1 h3
      repeat(first|refine Sc ?_|refine fun(_:Nat)=>?_)
      refine fun r hr => ?_
      obtain rfl := add1 hr (by omega)
      repeat(first|refine Sc ?_|refine fun(_:Nat)=>?_)
      refine Cont.lp ?_
      refine ⟨b - (m + 1), [rdW l, .int .i64 i, .any (.func (.func 52) #[] #[]), .junk, .junk, .junk, .int .i64 0, .bool false, .int .i64 l.length, .int .i64 (m + 1 : Nat), .int .i64 b, .junk, .junk, .junk, .junk, .junk, .junk, .junk, .junk, .junk, .junk, .junk, .junk, .junk, .junk, .junk, .junk, .junk, .junk, .junk, .junk, .junk, .junk, .junk, .junk, .junk, .junk, .junk, .junk, .junk, .junk, .junk, .junk, .junk, .junk, .junk, .junk, .junk, .junk], 99, by omega, ?_, ⟨m + 1, b, rfl, by omega, hb, ?_, h2, rfl, rfl⟩⟩
      · repeat(first|exact trivial|refine ⟨.inl rfl, ?_⟩|refine ⟨.inr rfl, ?_⟩)
      intro y hy
      obtain ⟨j, hj⟩ := List.mem_iff_getElem?.1 hy
      rw [List.getElem?_take] at hj
      split at hj
      case isFalse => cases hj
      rename_i hjm
      rcases Nat.lt_or_ge j m with hlt | hge
      · have := sortedW_at hs hj ex hlt; omega
      · obtain rfl : j = m := by omega
        rw [ex] at hj; cases hj; exact h3
    · have h3 : ¬ x.id < i := fun e => h3 (cmpI_neg.2 e)
      repeat(first|refine Sc ?_|refine fun(_:Nat)=>?_)
      refine Cont.lp ?_
      refine ⟨m - a, [rdW l, .int .i64 i, .any (.func (.func 52) #[] #[]), .junk, .junk, .junk, .int .i64 0, .bool false, .int .i64 l.length, .int .i64 a, .int .i64 m, .junk, .junk, .junk, .junk, .junk, .junk, .junk, .junk, .junk, .junk, .junk, .junk, .junk, .junk, .junk, .junk, .junk, .junk, .junk, .junk, .junk, .junk, .junk, .junk, .junk, .junk, .junk, .junk, .junk, .junk, .junk, .junk, .junk, .junk, .junk, .junk, .junk, .junk], 99, by omega, ?_, ⟨a, m, rfl, by omega, by omega, h1, ?_, rfl, rfl⟩⟩
      · repeat(first|exact trivial|refine ⟨.inl rfl, ?_⟩|refine ⟨.inr rfl, ?_⟩)
      intro y hy
      obtain ⟨j, hj⟩ := List.mem_iff_getElem?.1 hy
      rw [List.getElem?_drop] at hj
      rcases Nat.eq_zero_or_pos j with rfl | hj0
      · rw [Nat.add_zero, ex] at hj; cases hj; exact h3
      · have := sortedW_at hs ex hj (by omega); omega
  · have h : ¬ (a : Int) < (b : Int) := h
    have e : a = b := by omega
    subst e
    have hpos := filter_cut hb h1 h2
    repeat(first|refine Sc ?_|refine fun(_:Nat)=>?_)
    refine ⟨fun h3 => ?_, fun h3 => ?_⟩
    · have h3 : (a : Int) < (l.length : Int) := h3
      obtain ⟨x, ex⟩ : ∃ x, l[a]? = some x := ⟨_, List.getElem?_eq_getElem (by omega)⟩
      have hxm := List.mem_of_getElem? ex
      repeat(first|refine Sc ?_|refine fun(_:Nat)=>?_)
      refine ⟨h3, encW x, map_at encW ex, ?_⟩
      repeat(first|refine Sc ?_|refine fun(_:Nat)=>?_)
      refine ACallT.ok (ACall.ret (findOne_spec x i) ?_)
      repeat(first|refine Sc ?_|refine fun(_:Nat)=>?_)
      have hge : ¬ x.id < i := h2 x (List.mem_of_getElem? (i := 0) (by rw [List.getElem?_drop]; exact ex))
      refine ⟨fun h4 => ?_, fun h4 => ?_⟩
      · have h4 : x.id = i := cmpI_zero.1 h4
        repeat(first|refine Sc ?_|refine fun(_:Nat)=>?_)
        exact ⟨_, [], FinOk.drop _ _, by rw [hpos, decide_eq_true (p := ∃ x ∈ l, x.id = i) ⟨x, hxm, h4⟩]; rfl, rfl⟩
      · have h4 : ¬ x.id = i := fun e => h4 (cmpI_zero.2 e)
        repeat(first|refine Sc ?_|refine fun(_:Nat)=>?_)
        refine ⟨_, [], FinOk.drop _ _, ?_, rfl⟩
        rw [hpos, decide_eq_false (p := ∃ x ∈ l, x.id = i)]
        · rfl
        rintro ⟨y, hy, hyi⟩
        rw [← List.take_append_drop a l, List.mem_append] at hy
        rcases hy with hy | hy
        · have := h1 y hy; omega
        · obtain ⟨j, hj⟩ := List.mem_iff_getElem?.1 hy
          rw [List.getElem?_drop] at hj
          rcases Nat.eq_zero_or_pos j with rfl | hj0
          · rw [Nat.add_zero, ex] at hj; cases hj; exact h4 hyi
          · have := sortedW_at hs ex hj (by omega); omega
    · have h3 : ¬ (a : Int) < (l.length : Int) := h3
      repeat(first|refine Sc ?_|refine fun(_:Nat)=>?_)
      refine ⟨_, [], FinOk.drop _ _, ?_, rfl⟩
      rw [hpos, decide_eq_false (p := ∃ x ∈ l, x.id = i)]
      · rfl
      rintro ⟨y, hy, hyi⟩
      have := h1 y (by rw [List.take_of_length_le (by omega)]; exact hy)
      omega
theorem find_spec (l : List Wt) (hl : l.length ≤ 1000) (hs : SortedW l) (i : Int) : FnSpec C 32 [rdW l, .int .i64 i] [] (fun r L' => r = .tuple [.int .i64 (posW l i : Nat), .bool (decide (∃ x ∈ l, x.id = i))] ∧ L' = []) := by
  refine FnSpec.start C_ok Tryd.func32 rfl rfl Tryd.ntmps32 ?_
  repeat(first|refine Sc ?_|refine fun(_:Nat)=>?_)
  refine ACallT.ok (ACall.ret (search_spec l hl hs i) ?_)
  repeat(first|refine Sc ?_|refine fun(_:Nat)=>?_)
  exact ⟨_, [], FinOk.drop _ _, rfl, rfl⟩
end Go.Proofs.YtgpbppkmmlclfaaDoor.HBT
/- Tags and watches are sorted. -/
namespace Go.Proofs.YtgpbppkmmlclfaaDoor.HBT
open Go Go.Proofs.YtgpbppkmmlclfaaDoor.HB Go.RowKit Go.Shelf Go.Sort
set_option maxRecDepth 8000

abbrev Tg := Int × Int
abbrev encG (x : Tg) : AV := .agg (tgC x.1 x.2)
def cfT (x y : Tg) : Int := tagC x.1 x.2 y.1 y.2
theorem cfT_neg {x y : Tg} : cfT x y < 0 ↔ x.1 < y.1 ∨ (x.1 = y.1 ∧ x.2 < y.2) := by
  unfold cfT tagC cmpI
  split <;> split <;> (try split) <;> omega
theorem swoT : SWO (ltOf cfT) where
  irrefl := fun x => decide_eq_false (by rw [cfT_neg]; omega)
  trans := fun x y z h1 h2 => by
    have h1 := cfT_neg.1 (of_decide_eq_true h1)
    have h2 := cfT_neg.1 (of_decide_eq_true h2)
    exact decide_eq_true (cfT_neg.2 (by omega))
  ntrans := fun x y z h1 h2 => by
    have h1 := of_decide_eq_false h1
    have h2 := of_decide_eq_false h2
    rw [cfT_neg] at h1 h2
    refine decide_eq_false ?_
    rw [cfT_neg]
    omega
theorem sortT_spec (k0 g Cp : Nat) (xs : List Tg) (hn : xs.length ≤ 1000) : FnSpec C 26 [.sl k0 g Cp xs.length, .any (.func (.func 27) #[] #[])] [(g, .row tG 2 Cp (xs.map encG))]
    (fun r L' => r = .tuple [] ∧ ∃ ys : List Tg, ys.Perm xs ∧ ys.Pairwise (fun a b => ltOf cfT b a = false) ∧ L' = [(g, .row tG 2 Cp (ys.map encG))]) :=
  FnSpec.sortFunc (C := C) (C' := CD) (ρ := Tryd.sortTag_ren) C_ok Tryd.sortTag rfl (fun _ _ h => h) trivial (fun h => h) ⟨_, Tryd.func26, rfl, rfl⟩ Tryd.isAgg37 Tryd.sizeOf37
    (fun x : Tg => [.int .i64 x.1, .int .i64 x.2]) (fun x => [.int .i64 x.1, .int .i64 x.2]) (fun x => rfl) (fun x => rfl) cfT swoT
    27 (fun x y => (order_tagD x.1 x.2 y.1 y.2).post fun r L' ⟨e, e'⟩ => ⟨_, _, Sub.refl _, Imp.refl _, e⟩) xs (by omega) k0
theorem sortT_nil : FnSpec C 26 [.nils, .any (.func (.func 27) #[] #[])] [] (fun r L' => r = .tuple [] ∧ L' = []) :=
  FnSpec.sortFunc_nil (C := C) (ρ := Tryd.sortTag_ren) Tryd.sortTag ⟨_, Tryd.func26, rfl, rfl⟩ (.func (.func 27) #[] #[])
end Go.Proofs.YtgpbppkmmlclfaaDoor.HBT
