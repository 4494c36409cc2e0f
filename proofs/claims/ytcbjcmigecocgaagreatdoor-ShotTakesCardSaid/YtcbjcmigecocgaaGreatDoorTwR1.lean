/- The contracts of the document's own texts on names and places, part one. -/
import Derived.Test.YtcbjcmigecocgaaGreatDoorTwD1
set_option linter.unusedVariables false
set_option linter.unusedSimpArgs false
namespace Go.Proofs.YtcbjcmigecocgaaGreatDoor.HBT
open Go Go.Proofs.YtcbjcmigecocgaaGreatDoor.HB Go.RowKit
set_option maxRecDepth 8000

theorem size_zero {s : ByteArray} (h : s.size < 1) : s = ⟨#[]⟩ := by
  apply bytes_inj
  have : s.data.toList.length = 0 := by rw [Array.length_toList]; show s.size = 0; omega
  rw [List.eq_nil_of_length_eq_zero this]

set_option maxHeartbeats 4000000 in
theorem nameOf_spec (s : ByteArray) : FnSpec C 54 [.str s] [] (fun r L' => r = .bool (isNameB s) ∧ L' = []) := by
  refine FnSpec.start C_ok Tryz.func54 rfl rfl Tryz.ntmps54 ?_
  repeat(first|refine Sp ?_|refine fun(_:Nat)=>?_)
  refine ⟨fun h => ?_, fun h => ?_⟩
  case' refine_1 =>
    repeat(first|refine Sp ?_|refine fun(_:Nat)=>?_)
    exact ⟨_, [], FinOk.drop _ _, congrArg AV.bool (show false = _ by
      have h : (s.size : Int) < 1 := h
      rw [size_zero (s := s) (by omega)]
      decide), rfl⟩
  have h : ¬ (s.size : Int) < 1 := h
  have h0 : ¬ s = ⟨#[]⟩ := fun e => by rw [e] at h; exact h (by decide)
  repeat(first|refine Sp ?_|refine fun(_:Nat)=>?_)
  refine ⟨fun h => ?_, fun h => ?_⟩
  case' refine_1 =>
    repeat(first|refine Sp ?_|refine fun(_:Nat)=>?_)
    exact ⟨_, [], FinOk.drop _ _, congrArg AV.bool (show false = _ by
      have h : (16 : Int) < (s.size : Int) := h
      have : ¬ s.size ≤ 16 := by omega
      simp [isNameB, this]), rfl⟩
  have h : ¬ (16 : Int) < (s.size : Int) := h
  have h1 : s.size ≤ 16 := by omega
  repeat(first|refine Sp ?_|refine fun(_:Nat)=>?_)
  refine ⟨fun h => ?_, fun h => ?_⟩
  case' refine_1 =>
    repeat(first|refine Sp ?_|refine fun(_:Nat)=>?_)
    exact ⟨_, [], FinOk.drop _ _, congrArg AV.bool (show false = _ by
      have h : s = ⟨#[46]⟩ := h
      subst h
      decide), rfl⟩
  have h2 : ¬ s = ⟨#[46]⟩ := h
  repeat(first|refine Sp ?_|refine fun(_:Nat)=>?_)
  refine ⟨fun h => ?_, fun h => ?_⟩
  case' refine_1 =>
    repeat(first|refine Sp ?_|refine fun(_:Nat)=>?_)
    exact ⟨_, [], FinOk.drop _ _, congrArg AV.bool (show false = _ by
      have h : s = ⟨#[46, 46]⟩ := h
      subst h
      decide), rfl⟩
  have h3 : ¬ s = ⟨#[46, 46]⟩ := h
  repeat(first|refine Sp ?_|refine fun(_:Nat)=>?_)
  refine Run.loop (fun k env L => ∃ i : Nat, k = s.size - i ∧ i ≤ s.size ∧ (∀ (j : Nat) (h : j < s.size), j < i → nameByte s[j].toNat = true) ∧ env = [.str s, .junk, .junk, .int .i64 i, .junk, .junk, .junk, .junk, .junk, .junk, .junk, .junk, .junk, .junk, .junk, .junk, .junk, .junk, .junk, .junk, .junk, .junk, .junk, .junk, .junk, .junk, .junk, .junk, .junk, .junk, .junk, .junk, .junk, .junk, .junk, .junk, .junk, .junk, .junk, .junk, .junk, .junk, .junk, .junk, .junk, .junk, .junk, .junk, .junk, .junk, .junk, .junk, .junk, .junk, .junk, .junk, .junk, .junk, .junk, .junk, .junk, .junk, .junk, .junk, .junk, .junk, .junk] ∧ L = []) s.size [.str s, .junk, .junk, .int .i64 0, .junk, .junk, .junk, .junk, .junk, .junk, .junk, .junk, .junk, .junk, .junk, .junk, .junk, .junk, .junk, .junk, .junk, .junk, .junk, .junk, .junk, .junk, .junk, .junk, .junk, .junk, .junk, .junk, .junk, .junk, .junk, .junk, .junk, .junk, .junk, .junk, .junk, .junk, .junk, .junk, .junk, .junk, .junk, .junk, .junk, .junk, .junk, .junk, .junk, .junk, .junk, .junk, .junk, .junk, .junk, .junk, .junk, .junk, .junk, .junk, .junk, .junk, .junk] ?_ ⟨0, by omega, by omega, (fun j _ hj => absurd hj (Nat.not_lt_zero j)), rfl, rfl⟩ ?_
  · repeat(first|exact trivial|refine ⟨.inl rfl, ?_⟩|refine ⟨.inr rfl, ?_⟩)
  rintro k env L ⟨i, rfl, hi, hP, rfl, rfl⟩
  repeat(first|refine Sp ?_|refine fun(_:Nat)=>?_)
  refine ⟨fun h => ?_, fun h => ?_⟩
  · have h : (i : Int) < (s.size : Int) := h
    have hin : i < s.size := by omega
    repeat(first|refine Sp ?_|refine fun(_:Nat)=>?_)
    refine ⟨hin, ?_⟩
    repeat(first|refine Sp ?_|refine fun(_:Nat)=>?_)
    have hbad : nameByte s[i].toNat = false → false = isNameB s := fun hb => by
      symm
      rw [Bool.eq_false_iff]
      intro e
      unfold isNameB at e
      simp only [Bool.and_eq_true] at e
      have := (byte_all s _).1 e.2 i hin
      rw [hb] at this
      cases this
    generalize hc : s[i].toNat = c at hbad
    have hcb : c < 256 := by have := s[i].toNat_lt; omega
    have hcc : ∀ h, (s[(i : Int).toNat]'h).toNat = c := fun _ => hc
    simp only [hcc]
    repeat' (first | refine Ops.go ?_ | refine And.intro rfl ?_ | refine And.intro (Nat.le_of_ble_eq_true rfl) ?_ | refine And.intro (Int.natCast_nonneg _) ?_ | refine fun (_ : Nat) => ?_ | refine Ord.go ?_ | refine Run.go rfl ?_ | refine Cont.go rfl ?_ | refine OrdP.go ?_ | refine And.intro (fun _ => ?_) (fun _ => ?_))
    all_goals first
      | (refine ⟨_, [], FinOk.drop _ _, congrArg AV.bool (hbad ?_), rfl⟩
         cases hn : nameByte c with
         | false => rfl
         | true => unfold nameByte at hn; simp at hn; omega)
      | skip
    all_goals
      refine fun r hr => ?_
      obtain rfl := add1 hr (by omega)
      have hn : nameByte c = true := by
        cases hn : nameByte c with
        | true => rfl
        | false => exfalso; unfold nameByte at hn; simp at hn; omega
      repeat(first|refine Sp ?_|refine fun(_:Nat)=>?_)
      refine Cont.lp ?_
      refine ⟨s.size - (i + 1), [.str s, .junk, .junk, .int .i64 (i + 1 : Nat), .junk, .junk, .junk, .junk, .junk, .junk, .junk, .junk, .junk, .junk, .junk, .junk, .junk, .junk, .junk, .junk, .junk, .junk, .junk, .junk, .junk, .junk, .junk, .junk, .junk, .junk, .junk, .junk, .junk, .junk, .junk, .junk, .junk, .junk, .junk, .junk, .junk, .junk, .junk, .junk, .junk, .junk, .junk, .junk, .junk, .junk, .junk, .junk, .junk, .junk, .junk, .junk, .junk, .junk, .junk, .junk, .junk, .junk, .junk, .junk, .junk, .junk, .junk], 0, by omega, ?_, ⟨i + 1, rfl, by omega, ?_, rfl, rfl⟩⟩
      · repeat(first|exact trivial|refine ⟨.inl rfl, ?_⟩|refine ⟨.inr rfl, ?_⟩)
      · intro j hj hji
        by_cases e : j = i
        · subst e; rw [hc]; exact hn
        · exact hP j hj (by omega)
  · have h : ¬ (i : Int) < (s.size : Int) := h
    repeat(first|refine Sp ?_|refine fun(_:Nat)=>?_)
    exact ⟨_, [], FinOk.drop _ _, congrArg AV.bool (show true = _ by
      symm
      unfold isNameB
      simp only [Bool.and_eq_true, decide_eq_true_eq]
      exact ⟨⟨⟨⟨h0, h1⟩, h2⟩, h3⟩, (byte_all s _).2 fun j hj => hP j hj (by omega)⟩), rfl⟩

end Go.Proofs.YtcbjcmigecocgaaGreatDoor.HBT
/- The contract of the document's own cutting of a text. -/
namespace Go.Proofs.YtcbjcmigecocgaaGreatDoor.HBT
open Go Go.Proofs.YtcbjcmigecocgaaGreatDoor.HB Go.RowKit
set_option maxRecDepth 8000

theorem cut_one : ∀ (x t : List UInt8), (47 : UInt8) ∉ x → cut (x ++ 47 :: t) = x :: cut t
  | [], t, _ => by simp [cut]
  | c :: x, t, h => by
    have hc : ¬ c = 47 := fun e => h (by simp [e])
    have := cut_one x t (fun hx => h (List.mem_cons_of_mem _ hx))
    rw [List.cons_append]
    simp only [cut, hc, if_false, this]
theorem cut_last : ∀ (x : List UInt8), (47 : UInt8) ∉ x → cut x = [x]
  | [], _ => rfl
  | c :: x, h => by
    have hc : ¬ c = 47 := fun e => h (by simp [e])
    have := cut_last x (fun hx => h (List.mem_cons_of_mem _ hx))
    simp only [cut, hc, if_false, this]

theorem cut_step {B : List UInt8} {f i : Nat} (hfi : f ≤ i) (hi : i < B.length) (hno : ∀ j (h : j < B.length), f ≤ j → j < i → B[j] ≠ 47) (h47 : B[i] = 47) : cut (B.drop f) = (B.drop f).take (i - f) :: cut (B.drop (i + 1)) := by
  have e : B.drop f = (B.drop f).take (i - f) ++ 47 :: B.drop (i + 1) := by
    have h1 : (B.drop f).drop (i - f) = B.drop i := by rw [List.drop_drop]; congr 1; omega
    have h2 : B.drop i = 47 :: B.drop (i + 1) := by rw [List.drop_eq_getElem_cons hi, h47]
    rw [← h2, ← h1, List.take_append_drop]
  have hx : (47 : UInt8) ∉ (B.drop f).take (i - f) := fun hm => by
    obtain ⟨k, hk, ek⟩ := List.mem_iff_getElem.1 hm
    have hk2 : k < i - f := by rw [List.length_take] at hk; omega
    rw [List.getElem_take, List.getElem_drop] at ek
    exact hno (f + k) (by omega) (by omega) (by omega) ek
  conv => lhs; rw [e]
  exact cut_one _ _ hx
theorem cut_end {B : List UInt8} {f : Nat} (hno : ∀ j (h : j < B.length), f ≤ j → B[j] ≠ 47) : cut (B.drop f) = [B.drop f] := by
  apply cut_last
  intro hm
  obtain ⟨k, hk, ek⟩ := List.mem_iff_getElem.1 hm
  rw [List.length_drop] at hk
  rw [List.getElem_drop] at ek
  exact hno (f + k) (by omega) (by omega) ek

set_option maxHeartbeats 2000000 in
theorem refPieces_spec (t : ByteArray) (h1 : 1 ≤ t.size) (h2 : t.size ≤ 1000) : FnSpec C 53 [.str t] [] (fun r L' => ∃ g Cp, r = .sl 0 g Cp (cutB t).length ∧ L' = [(g, .row 9 1 Cp ((cutB t).map .str))]) := by
  refine FnSpec.start C_ok Tryz.func53 rfl rfl Tryz.ntmps53 ?_
  have hB : t.data.toList.length = t.size := by rw [Array.length_toList]; rfl
  have hcut : (cutB t).map (·.data.toList) = cut (t.data.toList.drop 1) := cutB_cut t
  have hat : ∀ j (h : j < t.data.toList.length), t.data.toList[j] = t[j]'(by omega) := fun j h => Array.getElem_toList _
  have hext : ∀ a b, (t.extract a b).data.toList = (t.data.toList.drop a).take (b - a) := fun a b => by
    rw [ByteArray.data_extract, Array.toList_extract]
  repeat(first|refine Sp ?_|refine fun(_:Nat)=>?_)
  refine Run.loop (fun k env L => ∃ (f i : Nat) (ps : List ByteArray), k = t.size + 1 - i ∧ f ≤ i ∧ i ≤ t.size + 1 ∧ 1 ≤ f ∧ ps.length ≤ i ∧
      ((i = t.size + 1 ∧ (cutB t).map (·.data.toList) = ps.map (·.data.toList)) ∨ (i ≤ t.size ∧ (cutB t).map (·.data.toList) = ps.map (·.data.toList) ++ cut (t.data.toList.drop f) ∧ ∀ j (h : j < t.data.toList.length), f ≤ j → j < i → t.data.toList[j] ≠ 47)) ∧
      ((ps = [] ∧ i ≤ t.size ∧ env = [.str t, .junk, .junk, .nils, .int .i64 f, .int .i64 i, .junk, .junk, .junk, .junk, .junk, .junk, .junk, .junk, .junk, .junk, .junk, .junk, .junk, .junk, .junk, .junk, .junk, .junk, .junk, .junk, .junk, .junk, .junk, .junk, .junk, .junk] ∧ L = []) ∨ (ps ≠ [] ∧ ∃ x0 g Cp, env = [.str t, .junk, .junk, .sl 1 g Cp ps.length, .int .i64 f, .int .i64 i, .junk, .junk, .junk, .junk, .junk, .junk, .junk, .junk, .junk, .junk, .junk, .junk, .junk, .junk, .junk, .junk, .junk, .junk, .junk, .junk, .junk, .junk, .junk, .junk, .junk, .junk] ∧ L = [x0, (g, .row 9 1 Cp (ps.map .str))])))
    t.size [.str t, .junk, .junk, .nils, .int .i64 1, .int .i64 1, .junk, .junk, .junk, .junk, .junk, .junk, .junk, .junk, .junk, .junk, .junk, .junk, .junk, .junk, .junk, .junk, .junk, .junk, .junk, .junk, .junk, .junk, .junk, .junk, .junk, .junk] ?_ ⟨1, 1, [], by omega, by omega, by omega, by omega, by simp, .inr ⟨by omega, by simpa using hcut, fun j _ h1 h2 => by omega⟩, .inl ⟨rfl, by omega, rfl, rfl⟩⟩ ?_
  · repeat(first|exact trivial|refine ⟨.inl rfl, ?_⟩|refine ⟨.inr rfl, ?_⟩)
  rintro k env L ⟨f, i, ps, rfl, hfi, hi, hf1, hpl, hinv, hshape⟩
  have key : i ≤ t.size → (cutB t).map (·.data.toList) = ps.map (·.data.toList) ++ cut (t.data.toList.drop f) ∧ ∀ j (h : j < t.data.toList.length), f ≤ j → j < i → t.data.toList[j] ≠ 47 := fun h => by
    rcases hinv with ⟨h', _⟩ | ⟨_, h1, h2⟩
    · omega
    · exact ⟨h1, h2⟩
  have newP : i ≤ t.size → (i = t.size ∨ ∃ h : i < t.size, t[i] = 47) → ((i + 1 = t.size + 1 ∧ (cutB t).map (·.data.toList) = (ps ++ [t.extract f i]).map (·.data.toList)) ∨
      (i + 1 ≤ t.size ∧ (cutB t).map (·.data.toList) = (ps ++ [t.extract f i]).map (·.data.toList) ++ cut (t.data.toList.drop (i + 1)) ∧ ∀ j (h : j < t.data.toList.length), i + 1 ≤ j → j < i + 1 → t.data.toList[j] ≠ 47)) := fun hit hc => by
    obtain ⟨k1, k2⟩ := key hit
    rcases hc with rfl | ⟨hlt, h47⟩
    · refine .inl ⟨rfl, ?_⟩
      rw [k1, cut_end (fun j h h3 => k2 j h h3 (by omega)), List.map_append]
      congr 1
      show [_] = [(t.extract f t.size).data.toList]
      rw [hext, List.take_of_length_le (by rw [List.length_drop]; omega)]
    · refine .inr ⟨by omega, ?_, fun j _ h3 h4 => by omega⟩
      rw [k1, cut_step hfi (by omega) k2 (by rw [hat i (by omega)]; exact h47), List.map_append, List.append_assoc]
      congr 1
      show _ = [(t.extract f i).data.toList] ++ _
      rw [hext]
      rfl
  have newN : (h : i < t.size) → t[i] ≠ 47 → ((i + 1 = t.size + 1 ∧ (cutB t).map (·.data.toList) = ps.map (·.data.toList)) ∨ (i + 1 ≤ t.size ∧ (cutB t).map (·.data.toList) = ps.map (·.data.toList) ++ cut (t.data.toList.drop f) ∧ ∀ j (h : j < t.data.toList.length), f ≤ j → j < i + 1 → t.data.toList[j] ≠ 47)) := fun hlt hne => by
    obtain ⟨k1, k2⟩ := key (by omega)
    refine .inr ⟨by omega, k1, fun j h h3 h4 => ?_⟩
    by_cases e : j = i
    · subst e; rw [hat j h]; exact hne
    · exact k2 j h h3 (by omega)
  have b47 : ∀ h : i < t.size, ((t[i]'h).toNat : Int) = 47 ↔ t[i]'h = 47 := fun h => by
    rw [← UInt8.toNat_inj]
    have : (47 : UInt8).toNat = 47 := rfl
    omega
  rcases hshape with ⟨rfl, hit, rfl, rfl⟩ | ⟨hps, x0, g, Cp, rfl, rfl⟩
  · repeat(first|refine Sp ?_|refine fun(_:Nat)=>?_)
    refine ⟨fun h => ?_, fun h => absurd (show (i : Int) ≤ (t.size : Int) by omega) h⟩
    repeat(first|refine Sp ?_|refine fun(_:Nat)=>?_)
    refine ⟨fun he => ?_, fun he => ?_⟩
    · have he : (i : Int) = (t.size : Int) := he
      repeat(first|refine Sp ?_|refine fun(_:Nat)=>?_)
      refine ⟨show (f : Int) ≤ (i : Int) by omega, show (i : Int) ≤ (t.size : Int) by omega, ?_⟩
      repeat(first|refine Sp ?_|refine fun(_:Nat)=>?_)
      refine ⟨fun h => absurd h (List.cons_ne_nil _ _), fun _ => ?_⟩
      repeat(first|refine Sp ?_|refine fun(_:Nat)=>?_)
      refine fun r hr => ?_
      obtain rfl := add1 hr (by omega)
      repeat(first|refine Sp ?_|refine fun(_:Nat)=>?_)
      refine fun r hr => ?_
      obtain rfl := add1 hr (by omega)
      repeat(first|refine Sp ?_|refine fun(_:Nat)=>?_)
      refine Cont.lp ?_
      refine ⟨t.size + 1 - (i + 1), [.str t, .junk, .junk, .sl 1 _ _ ([t.extract f i] : List ByteArray).length, .int .i64 (i + 1 : Nat), .int .i64 (i + 1 : Nat), .junk, .junk, .junk, .junk, .junk, .junk, .junk, .junk, .junk, .junk, .junk, .junk, .junk, .junk, .junk, .junk, .junk, .junk, .junk, .junk, .junk, .junk, .junk, .junk, .junk, .junk], 2, by omega, ?_, ⟨i + 1, i + 1, [t.extract f i], rfl, by omega, by omega, by omega, by simp, newP (by omega) (.inl (by omega)), .inr ⟨by simp, _, _, _, rfl, rfl⟩⟩⟩
      repeat(first|exact trivial|refine ⟨.inl rfl, ?_⟩|refine ⟨.inr rfl, ?_⟩)
    · have he : ¬ (i : Int) = (t.size : Int) := he
      have hlt : i < t.size := by omega
      repeat(first|refine Sp ?_|refine fun(_:Nat)=>?_)
      refine ⟨hlt, ?_⟩
      repeat(first|refine Sp ?_|refine fun(_:Nat)=>?_)
      refine ⟨fun hc => ?_, fun hc => ?_⟩
      · have hc : t[i] = 47 := (b47 hlt).1 hc
        repeat(first|refine Sp ?_|refine fun(_:Nat)=>?_)
        refine ⟨show (f : Int) ≤ (i : Int) by omega, show (i : Int) ≤ (t.size : Int) by omega, ?_⟩
        repeat(first|refine Sp ?_|refine fun(_:Nat)=>?_)
        refine ⟨fun h => absurd h (List.cons_ne_nil _ _), fun _ => ?_⟩
        repeat(first|refine Sp ?_|refine fun(_:Nat)=>?_)
        refine fun r hr => ?_
        obtain rfl := add1 hr (by omega)
        repeat(first|refine Sp ?_|refine fun(_:Nat)=>?_)
        refine fun r hr => ?_
        obtain rfl := add1 hr (by omega)
        repeat(first|refine Sp ?_|refine fun(_:Nat)=>?_)
        refine Cont.lp ?_
        refine ⟨t.size + 1 - (i + 1), [.str t, .junk, .junk, .sl 1 _ _ ([t.extract f i] : List ByteArray).length, .int .i64 (i + 1 : Nat), .int .i64 (i + 1 : Nat), .junk, .junk, .junk, .junk, .junk, .junk, .junk, .junk, .junk, .junk, .junk, .junk, .junk, .junk, .junk, .junk, .junk, .junk, .junk, .junk, .junk, .junk, .junk, .junk, .junk, .junk], 2, by omega, ?_, ⟨i + 1, i + 1, [t.extract f i], rfl, by omega, by omega, by omega, by simp, newP (by omega) (.inr ⟨hlt, hc⟩), .inr ⟨by simp, _, _, _, rfl, rfl⟩⟩⟩
        repeat(first|exact trivial|refine ⟨.inl rfl, ?_⟩|refine ⟨.inr rfl, ?_⟩)
      · have hc : ¬ t[i] = 47 := fun e => hc ((b47 hlt).2 e)
        repeat(first|refine Sp ?_|refine fun(_:Nat)=>?_)
        refine fun r hr => ?_
        obtain rfl := add1 hr (by omega)
        repeat(first|refine Sp ?_|refine fun(_:Nat)=>?_)
        refine Cont.lp ?_
        refine ⟨t.size + 1 - (i + 1), [.str t, .junk, .junk, .nils, .int .i64 f, .int .i64 (i + 1 : Nat), .junk, .junk, .junk, .junk, .junk, .junk, .junk, .junk, .junk, .junk, .junk, .junk, .junk, .junk, .junk, .junk, .junk, .junk, .junk, .junk, .junk, .junk, .junk, .junk, .junk, .junk], 0, by omega, ?_, ⟨f, i + 1, [], rfl, by omega, by omega, by omega, by simp, newN hlt hc, .inl ⟨rfl, by omega, rfl, rfl⟩⟩⟩
        repeat(first|exact trivial|refine ⟨.inl rfl, ?_⟩|refine ⟨.inr rfl, ?_⟩)
  · repeat(first|refine Sp ?_|refine fun(_:Nat)=>?_)
    refine ⟨fun h => ?_, fun h => ?_⟩
    case' refine_2 =>
      have h : ¬ (i : Int) ≤ (t.size : Int) := h
      have hps2 : ps = cutB t := by
        rcases hinv with ⟨_, h3⟩ | ⟨h3, _⟩
        · exact (map_bytes_inj h3).symm
        · omega
      repeat(first|refine Sp ?_|refine fun(_:Nat)=>?_)
      exact ⟨.sl 0 g Cp ps.length, _, FinOk.keep _ [1] (Sub.sl _ _ _ _ _) (by decide) rfl, g, Cp, by rw [hps2], by rw [hps2]; rfl⟩
    have h : (i : Int) ≤ (t.size : Int) := h
    repeat(first|refine Sp ?_|refine fun(_:Nat)=>?_)
    refine ⟨fun he => ?_, fun he => ?_⟩
    · have he : (i : Int) = (t.size : Int) := he
      repeat(first|refine Sp ?_|refine fun(_:Nat)=>?_)
      refine ⟨show (f : Int) ≤ (i : Int) by omega, show (i : Int) ≤ (t.size : Int) by omega, ?_⟩
      repeat(first|refine Sp ?_|refine fun(_:Nat)=>?_)
      refine ⟨(List.length_map ..).symm, show ((ps.map AV.str).length + 1) * 16 ≤ _ by rw [List.length_map]; omega, ?_⟩
      refine fun g2 C2 => ?_
      repeat(first|refine Sp ?_|refine fun(_:Nat)=>?_)
      refine fun r hr => ?_
      obtain rfl := add1 hr (by omega)
      repeat(first|refine Sp ?_|refine fun(_:Nat)=>?_)
      refine fun r hr => ?_
      obtain rfl := add1 hr (by omega)
      repeat(first|refine Sp ?_|refine fun(_:Nat)=>?_)
      refine Cont.lp ?_
      refine ⟨t.size + 1 - (i + 1), [.str t, .junk, .junk, .sl 1 g2 C2 ((ps.map AV.str).length + 1), .int .i64 (i + 1 : Nat), .int .i64 (i + 1 : Nat), .junk, .junk, .junk, .junk, .junk, .junk, .junk, .junk, .junk, .junk, .junk, .junk, .junk, .junk, .junk, .junk, .junk, .junk, .junk, .junk, .junk, .junk, .junk, .junk, .junk, .junk], 2, by omega, ?_, ⟨i + 1, i + 1, ps ++ [t.extract f i], rfl, by omega, by omega, by omega, by simp; omega, newP (by omega) (.inl (by omega)), .inr ⟨by simp, x0, g2, C2, by simp, congrArg (fun l => [x0, (g2, AObj.row 9 1 C2 l)]) (show ps.map AV.str ++ [.str (t.extract f i)] = _ by simp)⟩⟩⟩
      repeat(first|exact trivial|refine ⟨.inl rfl, ?_⟩|refine ⟨.inr rfl, ?_⟩)
    · have he : ¬ (i : Int) = (t.size : Int) := he
      have hlt : i < t.size := by omega
      repeat(first|refine Sp ?_|refine fun(_:Nat)=>?_)
      refine ⟨hlt, ?_⟩
      repeat(first|refine Sp ?_|refine fun(_:Nat)=>?_)
      refine ⟨fun hc => ?_, fun hc => ?_⟩
      · have hc : t[i] = 47 := (b47 hlt).1 hc
        repeat(first|refine Sp ?_|refine fun(_:Nat)=>?_)
        refine ⟨show (f : Int) ≤ (i : Int) by omega, show (i : Int) ≤ (t.size : Int) by omega, ?_⟩
        repeat(first|refine Sp ?_|refine fun(_:Nat)=>?_)
        refine ⟨(List.length_map ..).symm, show ((ps.map AV.str).length + 1) * 16 ≤ _ by rw [List.length_map]; omega, ?_⟩
        refine fun g2 C2 => ?_
        repeat(first|refine Sp ?_|refine fun(_:Nat)=>?_)
        refine fun r hr => ?_
        obtain rfl := add1 hr (by omega)
        repeat(first|refine Sp ?_|refine fun(_:Nat)=>?_)
        refine fun r hr => ?_
        obtain rfl := add1 hr (by omega)
        repeat(first|refine Sp ?_|refine fun(_:Nat)=>?_)
        refine Cont.lp ?_
        refine ⟨t.size + 1 - (i + 1), [.str t, .junk, .junk, .sl 1 g2 C2 ((ps.map AV.str).length + 1), .int .i64 (i + 1 : Nat), .int .i64 (i + 1 : Nat), .junk, .junk, .junk, .junk, .junk, .junk, .junk, .junk, .junk, .junk, .junk, .junk, .junk, .junk, .junk, .junk, .junk, .junk, .junk, .junk, .junk, .junk, .junk, .junk, .junk, .junk], 2, by omega, ?_, ⟨i + 1, i + 1, ps ++ [t.extract f i], rfl, by omega, by omega, by omega, by simp; omega, newP (by omega) (.inr ⟨hlt, hc⟩), .inr ⟨by simp, x0, g2, C2, by simp, congrArg (fun l => [x0, (g2, AObj.row 9 1 C2 l)]) (show ps.map AV.str ++ [.str (t.extract f i)] = _ by simp)⟩⟩⟩
        repeat(first|exact trivial|refine ⟨.inl rfl, ?_⟩|refine ⟨.inr rfl, ?_⟩)
      · have hc : ¬ t[i] = 47 := fun e => hc ((b47 hlt).2 e)
        repeat(first|refine Sp ?_|refine fun(_:Nat)=>?_)
        refine fun r hr => ?_
        obtain rfl := add1 hr (by omega)
        repeat(first|refine Sp ?_|refine fun(_:Nat)=>?_)
        refine Cont.lp ?_
        refine ⟨t.size + 1 - (i + 1), [.str t, .junk, .junk, .sl 1 g Cp ps.length, .int .i64 f, .int .i64 (i + 1 : Nat), .junk, .junk, .junk, .junk, .junk, .junk, .junk, .junk, .junk, .junk, .junk, .junk, .junk, .junk, .junk, .junk, .junk, .junk, .junk, .junk, .junk, .junk, .junk, .junk, .junk, .junk], 2, by omega, ?_, ⟨f, i + 1, ps, rfl, by omega, by omega, by omega, by omega, newN hlt hc, .inr ⟨hps, x0, g, Cp, rfl, rfl⟩⟩⟩
        repeat(first|exact trivial|refine ⟨.inl rfl, ?_⟩|refine ⟨.inr rfl, ?_⟩)

end Go.Proofs.YtcbjcmigecocgaaGreatDoor.HBT
/- The contract of the document's own Parse. -/
namespace Go.Proofs.YtcbjcmigecocgaaGreatDoor.HBT
open Go Go.Proofs.YtcbjcmigecocgaaGreatDoor.HB Go.RowKit
set_option maxRecDepth 8000

def ParseR (s : ByteArray) (r : AV) (L' : AHeap) : Prop :=
  (parseE s ≠ 0 ∧ r = .tuple [.nils, .int .i64 (parseE s)] ∧ L' = []) ∨ (parseE s = 0 ∧ namesOf s = [] ∧ r = .tuple [.nils, .int .i64 0] ∧ L' = []) ∨
  (parseE s = 0 ∧ (namesOf s).length ≤ 6 ∧ ∃ g Cp, r = .tuple [.sl 0 g Cp (namesOf s).length, .int .i64 0] ∧ L' = [(g, .row 9 1 Cp ((namesOf s).map .str))])

theorem begins_iff {s : ByteArray} (h : 0 < s.size) : begins47 s = true ↔ s[0] = 47 := by
  have hl : 0 < s.data.toList.length := by rw [Array.length_toList]; exact h
  have e : s.data.toList = s[0] :: s.data.toList.drop 1 := by have := byte_at s 0 h; simpa using this
  unfold begins47
  rw [e]
  show (((47 : UInt8) == s[0]) && ([] : List UInt8).isPrefixOf _) = true ↔ _
  constructor
  · intro hb
    rw [Bool.and_eq_true] at hb
    exact (beq_iff_eq.1 hb.1).symm
  · intro e
    rw [e]
    rfl

set_option maxHeartbeats 1000000 in
theorem refParse_spec (s : ByteArray) : FnSpec C 30 [.str s] [] (ParseR s) := by
  refine FnSpec.start C_ok Tryz.func30 rfl rfl Tryz.ntmps30 ?_
  repeat(first|refine Sp ?_|refine fun(_:Nat)=>?_)
  refine ⟨fun h => ?_, fun h => ?_⟩
  case' refine_1 =>
    have h : (102 : Int) < (s.size : Int) := h
    have e : parseE s = 2 := by unfold parseE; rw [if_pos (by omega)]
    repeat(first|refine Sp ?_|refine fun(_:Nat)=>?_)
    exact ⟨_, [], FinOk.drop _ _, .inl ⟨by rw [e]; decide, by rw [e]; rfl, rfl⟩⟩
  have h : ¬ (102 : Int) < (s.size : Int) := h
  have h1 : ¬ 102 < s.size := by omega
  repeat(first|refine Sp ?_|refine fun(_:Nat)=>?_)
  refine ⟨fun h => ?_, fun h => ?_⟩
  case' refine_1 =>
    have h : s = slash := h
    repeat(first|refine Sp ?_|refine fun(_:Nat)=>?_)
    exact ⟨_, [], FinOk.drop _ _, .inr (.inl ⟨by unfold parseE; rw [if_neg h1, if_pos h], by unfold namesOf; rw [if_pos h], rfl, rfl⟩)⟩
  have h2 : ¬ s = slash := h
  have bad : begins47 s = false → parseE s = 10 := fun hb => by unfold parseE; rw [if_neg h1, if_neg h2, if_pos hb]
  repeat(first|refine Sp ?_|refine fun(_:Nat)=>?_)
  refine ⟨fun h => ?_, fun h => ?_⟩
  case' refine_1 =>
    have h : s = ⟨#[]⟩ := h
    have e := bad (by rw [h]; rfl)
    repeat(first|refine Sp ?_|refine fun(_:Nat)=>?_)
    exact ⟨_, [], FinOk.drop _ _, .inl ⟨by rw [e]; decide, by rw [e]; rfl, rfl⟩⟩
  have h0 : ¬ s = ⟨#[]⟩ := h
  have hpos : 0 < s.size := by
    rcases Nat.eq_zero_or_pos s.size with e | e
    · exact absurd (size_zero (by omega)) h0
    · exact e
  repeat(first|refine Sp ?_|refine fun(_:Nat)=>?_)
  refine ⟨hpos, ?_⟩
  repeat(first|refine Sp ?_|refine fun(_:Nat)=>?_)
  refine ⟨fun h => ?_, fun h => ?_⟩
  case' refine_1 =>
    have h : ((s[0].toNat : Nat) : Int) ≠ 47 := h
    have e := bad (by
      rw [Bool.eq_false_iff]
      intro hb
      rw [(begins_iff hpos).1 hb] at h
      exact h rfl)
    repeat(first|refine Sp ?_|refine fun(_:Nat)=>?_)
    exact ⟨_, [], FinOk.drop _ _, .inl ⟨by rw [e]; decide, by rw [e]; rfl, rfl⟩⟩
  have h : ¬ ((s[0].toNat : Nat) : Int) ≠ 47 := h
  have hb : begins47 s = true := (begins_iff hpos).2 (by
    apply UInt8.toNat_inj.1
    have : (47 : UInt8).toNat = 47 := rfl
    omega)
  repeat(first|refine Sp ?_|refine fun(_:Nat)=>?_)
  refine ACall.pure _ (refPieces_spec s (by omega) (by omega)) ?_
  rintro r L' ⟨g, Cp, rfl, rfl⟩
  refine ⟨_, Sub.refl _, ?_⟩
  repeat(first|refine Sp ?_|refine fun(_:Nat)=>?_)
  refine ⟨fun h => ?_, fun h => ?_⟩
  case' refine_1 =>
    have h : (6 : Int) < ((cutB s).length : Int) := h
    have e : parseE s = 10 := by unfold parseE; rw [if_neg h1, if_neg h2, if_neg (by rw [hb]; decide), if_pos (by omega)]
    repeat(first|refine Sp ?_|refine fun(_:Nat)=>?_)
    exact ⟨_, [], FinOk.drop _ _, .inl ⟨by rw [e]; decide, by rw [e]; rfl, rfl⟩⟩
  have h : ¬ (6 : Int) < ((cutB s).length : Int) := h
  have h3 : ¬ 6 < (cutB s).length := by omega
  repeat(first|refine Sp ?_|refine fun(_:Nat)=>?_)
  generalize hl : cutB s = l at h3 ⊢
  refine Run.loop (fun k env L => ∃ i : Nat, k = l.length - i ∧ i ≤ l.length ∧ (∀ (j : Nat) (x : ByteArray), l[j]? = some x → j < i → isNameB x = true) ∧
      env = [.junk, .junk, .junk, .junk, .sl 0 g Cp l.length, .int .i64 i, .junk, .junk, .junk, .junk, .junk, .junk, .junk, .junk, .junk, .junk, .junk, .junk, .junk, .junk, .junk, .junk, .junk, .junk, .junk, .junk, .junk, .junk, .junk, .junk, .junk, .junk, .junk, .junk, .junk, .junk, .junk, .junk] ∧ L = [(g, .row 9 1 Cp (l.map .str))]) l.length
    [.junk, .junk, .junk, .junk, .sl 0 g Cp l.length, .int .i64 0, .junk, .junk, .junk, .junk, .junk, .junk, .junk, .junk, .junk, .junk, .junk, .junk, .junk, .junk, .junk, .junk, .junk, .junk, .junk, .junk, .junk, .junk, .junk, .junk, .junk, .junk, .junk, .junk, .junk, .junk, .junk, .junk] ?_ ⟨0, by omega, by omega, (fun j _ _ hj => absurd hj (Nat.not_lt_zero j)), rfl, rfl⟩ ?_
  · repeat(first|exact trivial|refine ⟨.inl rfl, ?_⟩|refine ⟨.inr rfl, ?_⟩)
  rintro k env L ⟨i, rfl, hi, hP, rfl, rfl⟩
  repeat(first|refine Sp ?_|refine fun(_:Nat)=>?_)
  refine ⟨fun h => ?_, fun h => ?_⟩
  · have h : (i : Int) < (l.length : Int) := h
    have hin : i < l.length := by omega
    obtain ⟨x, ex⟩ : ∃ x, l[i]? = some x := ⟨l[i], List.getElem?_eq_getElem hin⟩
    have ex' : (l.map AV.str)[i]? = some (.str x) := by rw [List.getElem?_map, ex]; rfl
    have hn := nameOf_spec x
    repeat(first|refine Sp ?_|refine fun(_:Nat)=>?_)
    refine ⟨h, ?_⟩
    repeat(first|refine Sp ?_|refine fun(_:Nat)=>?_)
    refine ⟨_, ex', ?_⟩
    repeat(first|refine Sp ?_|refine fun(_:Nat)=>?_)
    cases hx : isNameB x with
    | false =>
      rw [hx] at hn
      refine ACall.ret hn ?_
      repeat(first|refine Sp ?_|refine fun(_:Nat)=>?_)
      have e : parseE s = 10 := by
        have : l.all isNameB = false := by
          rw [Bool.eq_false_iff]
          intro e
          rw [List.all_eq_true] at e
          have := e x (List.mem_of_getElem? ex)
          rw [hx] at this
          cases this
        unfold parseE
        rw [hl, if_neg h1, if_neg h2, if_neg (by rw [hb]; decide), if_neg h3, this]
        rfl
      exact ⟨_, [], FinOk.drop _ _, .inl ⟨by rw [e]; decide, by rw [e]; rfl, rfl⟩⟩
    | true =>
      rw [hx] at hn
      refine ACall.ret hn ?_
      repeat(first|refine Sp ?_|refine fun(_:Nat)=>?_)
      refine fun r hr => ?_
      obtain rfl := add1 hr (by omega)
      repeat(first|refine Sp ?_|refine fun(_:Nat)=>?_)
      refine Cont.lp ?_
      refine ⟨l.length - (i + 1), [.junk, .junk, .junk, .junk, .sl 0 g Cp l.length, .int .i64 (i + 1 : Nat), .junk, .junk, .junk, .junk, .junk, .junk, .junk, .junk, .junk, .junk, .junk, .junk, .junk, .junk, .junk, .junk, .junk, .junk, .junk, .junk, .junk, .junk, .junk, .junk, .junk, .junk, .junk, .junk, .junk, .junk, .junk, .junk], 99, by omega, ?_, ⟨i + 1, rfl, by omega, ?_, rfl, rfl⟩⟩
      · repeat(first|exact trivial|refine ⟨.inl rfl, ?_⟩|refine ⟨.inr rfl, ?_⟩)
      · intro j y hj hji
        by_cases e : j = i
        · subst e; rw [ex] at hj; cases hj; exact hx
        · exact hP j y hj (by omega)
  · have h : ¬ (i : Int) < (l.length : Int) := h
    repeat(first|refine Sp ?_|refine fun(_:Nat)=>?_)
    have hall : l.all isNameB = true := by
      rw [List.all_eq_true]
      intro x hx
      obtain ⟨j, hj, rfl⟩ := List.mem_iff_getElem.1 hx
      exact hP j _ (List.getElem?_eq_getElem hj) (by omega)
    have e : parseE s = 0 := by
      unfold parseE
      rw [hl, if_neg h1, if_neg h2, if_neg (by rw [hb]; decide), if_neg h3, if_pos hall]
    have en : namesOf s = l := by unfold namesOf; rw [if_neg h2]; exact hl
    exact ⟨_, _, FinOk.refl _ _, .inr (.inr ⟨e, by rw [en]; omega, g, Cp, by rw [en]; rfl, by rw [en]⟩)⟩

end Go.Proofs.YtcbjcmigecocgaaGreatDoor.HBT
/- The contracts of the document's own Is, Of and Parent. -/
namespace Go.Proofs.YtcbjcmigecocgaaGreatDoor.HBT
open Go Go.Proofs.YtcbjcmigecocgaaGreatDoor.HB Go.RowKit
set_option maxRecDepth 8000

theorem refIs_spec (s : ByteArray) : FnSpec C 18 [.str s] [] (fun r L' => r = .bool (decide (parseE s = 0)) ∧ L' = []) := by
  refine FnSpec.start C_ok Tryz.func18 rfl rfl Tryz.ntmps18 ?_
  repeat(first|refine Sp ?_|refine fun(_:Nat)=>?_)
  refine ACall.pure _ (refParse_spec s) ?_
  rintro r L' (⟨h, rfl, rfl⟩ | ⟨h, _, rfl, rfl⟩ | ⟨h, _, g, Cp, rfl, rfl⟩)
  · refine ⟨_, Sub.refl _, ?_⟩
    repeat(first|refine Sp ?_|refine fun(_:Nat)=>?_)
    refine ⟨fun e => absurd e h, fun _ => ?_⟩
    repeat(first|refine Sp ?_|refine fun(_:Nat)=>?_)
    exact ⟨_, [], FinOk.drop _ _, congrArg AV.bool (show false = _ by simp [h]), rfl⟩
  · refine ⟨_, Sub.refl _, ?_⟩
    repeat(first|refine Sp ?_|refine fun(_:Nat)=>?_)
    refine ⟨fun _ => ?_, fun e => absurd rfl e⟩
    repeat(first|refine Sp ?_|refine fun(_:Nat)=>?_)
    exact ⟨_, [], FinOk.drop _ _, congrArg AV.bool (show true = _ by simp [h]), rfl⟩
  · refine ⟨_, Sub.refl _, ?_⟩
    repeat(first|refine Sp ?_|refine fun(_:Nat)=>?_)
    refine ⟨fun _ => ?_, fun e => absurd rfl e⟩
    repeat(first|refine Sp ?_|refine fun(_:Nat)=>?_)
    exact ⟨_, [], FinOk.drop _ _, congrArg AV.bool (show true = _ by simp [h]), rfl⟩

def ofB (l : List ByteArray) : ByteArray := l.foldl (fun s x => (s ++ slash) ++ x) ⟨#[]⟩
theorem ofB_snoc (l : List ByteArray) (x : ByteArray) : ofB (l ++ [x]) = (ofB l ++ slash) ++ x := by
  unfold ofB
  rw [List.foldl_append]
  rfl
set_option maxHeartbeats 1000000 in
theorem refOf_spec (xs : List ByteArray) (n : Nat) (hn : n ≤ xs.length) (h6 : n ≤ 6) (h16 : ∀ x ∈ xs, x.size ≤ 16) : FnSpec C 67 [.ro 1 (xs.map .str) n] [] (fun r L' => r = .str (if ofB (xs.take n) = ⟨#[]⟩ then slash else ofB (xs.take n)) ∧ L' = []) := by
  refine FnSpec.start C_ok Tryz.func67 rfl rfl Tryz.ntmps67 ?_
  repeat(first|refine Sp ?_|refine fun(_:Nat)=>?_)
  refine Run.loop (fun k env L => ∃ i : Nat, k = n - i ∧ i ≤ n ∧ (ofB (xs.take i)).size ≤ i * 17 ∧ env = [.ro 1 (xs.map .str) n, .junk, .junk, .str (ofB (xs.take i)), .int .i64 i, .junk, .junk, .junk, .junk, .junk, .junk, .junk, .junk, .junk, .junk, .junk, .junk, .junk, .junk, .junk, .junk] ∧ L = []) n
    [.ro 1 (xs.map .str) n, .junk, .junk, .str (ofB (xs.take 0)), .int .i64 0, .junk, .junk, .junk, .junk, .junk, .junk, .junk, .junk, .junk, .junk, .junk, .junk, .junk, .junk, .junk, .junk] ?_ ⟨0, by omega, by omega, (by decide : (0 : Nat) ≤ 0 * 17), rfl, rfl⟩ ?_
  · repeat(first|exact trivial|refine ⟨.inl rfl, ?_⟩|refine ⟨.inr rfl, ?_⟩)
  rintro k env L ⟨i, rfl, hi, hsz, rfl, rfl⟩
  repeat(first|refine Sp ?_|refine fun(_:Nat)=>?_)
  refine ⟨fun h => ?_, fun h => ?_⟩
  · have h : (i : Int) < (n : Int) := h
    obtain ⟨x, ex⟩ : ∃ x, xs[i]? = some x := ⟨xs[i], List.getElem?_eq_getElem (by omega)⟩
    have ex' : (xs.map AV.str)[i]? = some (.str x) := by rw [List.getElem?_map, ex]; rfl
    have hx := h16 x (List.mem_of_getElem? ex)
    have e1 : slash.size = 1 := rfl
    have htake : xs.take (i + 1) = xs.take i ++ [x] := by rw [List.take_add_one, ex]; rfl
    repeat(first|refine Sp ?_|refine fun(_:Nat)=>?_)
    refine ⟨show (ofB (xs.take i)).size + slash.size ≤ 9223372036854775807 by omega, ?_⟩
    repeat(first|refine Sp ?_|refine fun(_:Nat)=>?_)
    refine ⟨h, _, ex', ?_⟩
    repeat(first|refine Sp ?_|refine fun(_:Nat)=>?_)
    have e2 : (ofB (xs.take i) ++ slash).size = (ofB (xs.take i)).size + slash.size := ByteArray.size_append
    refine ⟨show (ofB (xs.take i) ++ slash).size + x.size ≤ 9223372036854775807 by omega, ?_⟩
    repeat(first|refine Sp ?_|refine fun(_:Nat)=>?_)
    refine fun r hr => ?_
    obtain rfl := add1 hr (by omega)
    repeat(first|refine Sp ?_|refine fun(_:Nat)=>?_)
    refine Cont.lp ?_
    refine ⟨n - (i + 1), [.ro 1 (xs.map .str) n, .junk, .junk, .str ((ofB (xs.take i) ++ slash) ++ x), .int .i64 (i + 1 : Nat), .junk, .junk, .junk, .junk, .junk, .junk, .junk, .junk, .junk, .junk, .junk, .junk, .junk, .junk, .junk, .junk], 99, by omega, ?_, ⟨i + 1, rfl, by omega, ?_, ?_, rfl⟩⟩
    · repeat(first|exact trivial|refine ⟨.inl rfl, ?_⟩|refine ⟨.inr rfl, ?_⟩)
    · rw [htake, ofB_snoc, ByteArray.size_append, e2]
      omega
    · rw [htake, ofB_snoc]
  · have h : ¬ (i : Int) < (n : Int) := h
    have hin : i = n := by omega
    subst hin
    repeat(first|refine Sp ?_|refine fun(_:Nat)=>?_)
    refine ⟨fun he => ?_, fun he => ?_⟩
    · have he : ofB (xs.take i) = ⟨#[]⟩ := he
      repeat(first|refine Sp ?_|refine fun(_:Nat)=>?_)
      exact ⟨_, [], FinOk.drop _ _, by rw [if_pos he]; rfl, rfl⟩
    · have he : ¬ ofB (xs.take i) = ⟨#[]⟩ := he
      repeat(first|refine Sp ?_|refine fun(_:Nat)=>?_)
      exact ⟨_, [], FinOk.drop _ _, by rw [if_neg he]; rfl, rfl⟩

end Go.Proofs.YtcbjcmigecocgaaGreatDoor.HBT
/- The contract of the document's own Parent. -/
namespace Go.Proofs.YtcbjcmigecocgaaGreatDoor.HBT
open Go Go.Proofs.YtcbjcmigecocgaaGreatDoor.HB Go.RowKit
set_option maxRecDepth 8000

theorem ofB_data (l : List ByteArray) : (ofB l).data.toList = (l.map fun x => 47 :: x.data.toList).flatten := by
  have key : ∀ (l : List ByteArray) (a : ByteArray), (l.foldl (fun s x => (s ++ slash) ++ x) a).data.toList = a.data.toList ++ (l.map fun x => 47 :: x.data.toList).flatten := by
    intro l
    induction l with
    | nil => intro a; simp
    | cons x l ih =>
      intro a
      rw [List.foldl_cons, ih]
      simp [slash]
  unfold ofB
  rw [key]
  rfl
theorem join_slash : ∀ l : List (List UInt8), l ≠ [] → 47 :: Lib.join l [47] = (l.map fun x => 47 :: x).flatten
  | [], h => absurd rfl h
  | [x], _ => by rw [Lib.join_one]; simp
  | x :: y :: l, _ => by
    have ih := join_slash (y :: l) (by simp)
    have e : Lib.join (x :: y :: l) [47] = x ++ 47 :: Lib.join (y :: l) [47] := by simp [Lib.join, List.intercalate, List.intersperse]
    rw [e, ih]
    simp
theorem of_placed (l : List ByteArray) : (if ofB l = ⟨#[]⟩ then slash else ofB l) = placedB l := by
  by_cases hl : l = []
  · subst hl
    rw [if_pos (show ofB [] = ⟨#[]⟩ from rfl)]
    apply bytes_inj
    rw [placed_data]
    rfl
  · have e : ofB l = placedB l := by
      apply bytes_inj
      rw [ofB_data, placed_data]
      unfold joinB
      rw [join_slash _ (by simpa using hl), List.map_map]
      rfl
    rw [e, if_neg]
    intro h
    have := congrArg (·.data.toList) h
    simp only [placed_data] at this
    cases this

set_option maxHeartbeats 1000000 in
theorem refParent_spec (s : ByteArray) : FnSpec C 55 [.str s] [] (fun r L' => r = .tuple [.str (parentB s), .int .i64 (parentE s)] ∧ L' = []) := by
  refine FnSpec.start C_ok Tryz.func55 rfl rfl Tryz.ntmps55 ?_
  repeat(first|refine Sp ?_|refine fun(_:Nat)=>?_)
  refine ACall.pure _ (refParse_spec s) ?_
  rintro r L' (⟨h, rfl, rfl⟩ | ⟨h, hn, rfl, rfl⟩ | ⟨h, hn, g, Cp, rfl, rfl⟩)
  · refine ⟨_, Sub.refl _, ?_⟩
    have e : parentE s = parseE s := by unfold parentE; rw [if_pos h]
    have e2 : parentB s = ⟨#[]⟩ := by unfold parentB; rw [if_pos (by rw [e]; exact h)]
    repeat(first|refine Sp ?_|refine fun(_:Nat)=>?_)
    refine ⟨fun _ => ?_, fun e => absurd h e⟩
    repeat(first|refine Sp ?_|refine fun(_:Nat)=>?_)
    exact ⟨_, [], FinOk.drop _ _, by rw [e, e2]; rfl, rfl⟩
  · refine ⟨_, Sub.refl _, ?_⟩
    have e : parentE s = 47 := by unfold parentE; rw [if_neg (by rw [h]; decide), if_pos hn]
    have e2 : parentB s = ⟨#[]⟩ := by unfold parentB; rw [if_pos (by rw [e]; decide)]
    repeat(first|refine Sp ?_|refine fun(_:Nat)=>?_)
    refine ⟨fun e => absurd rfl e, fun _ => ?_⟩
    repeat(first|refine Sp ?_|refine fun(_:Nat)=>?_)
    refine ⟨fun _ => ?_, fun e => absurd rfl e⟩
    repeat(first|refine Sp ?_|refine fun(_:Nat)=>?_)
    exact ⟨_, [], FinOk.drop _ _, by rw [e, e2]; rfl, rfl⟩
  · refine ⟨_, Sub.refl _, ?_⟩
    obtain ⟨h6, hall⟩ := names_ok h
    generalize hl : namesOf s = l at h6 hall ⊢
    repeat(first|refine Sp ?_|refine fun(_:Nat)=>?_)
    refine ⟨fun e => absurd rfl e, fun _ => ?_⟩
    repeat(first|refine Sp ?_|refine fun(_:Nat)=>?_)
    refine ⟨fun h0 => ?_, fun h0 => ?_⟩
    · have h0 : (l.length : Int) = 0 := h0
      have hnil : l = [] := List.eq_nil_of_length_eq_zero (by omega)
      have e : parentE s = 47 := by unfold parentE; rw [if_neg (by rw [h]; decide), if_pos (by rw [hl]; exact hnil)]
      have e2 : parentB s = ⟨#[]⟩ := by unfold parentB; rw [if_pos (by rw [e]; decide)]
      repeat(first|refine Sp ?_|refine fun(_:Nat)=>?_)
      exact ⟨_, [], FinOk.drop _ _, by rw [e, e2]; rfl, rfl⟩
    · have h0 : ¬ (l.length : Int) = 0 := h0
      have hne : l ≠ [] := fun e => h0 (by rw [e]; rfl)
      have e : parentE s = 0 := by unfold parentE; rw [if_neg (by rw [h]; decide), if_neg (by rw [hl]; exact hne)]
      have e2 : parentB s = placedB (l.take (l.length - 1)) := by unfold parentB; rw [if_neg (by rw [e]; decide), hl]
      repeat(first|refine Sp ?_|refine fun(_:Nat)=>?_)
      refine fun r hr => ?_
      have hr : r = ((l.length - 1 : Nat) : Int) := by rw [hr, IntKind.wrap_i64]; omega
      subst hr
      repeat(first|refine Sp ?_|refine fun(_:Nat)=>?_)
      refine ⟨show ((l.length - 1 : Nat) : Int) ≤ ((l.map AV.str).length : Int) by rw [List.length_map]; omega, ?_⟩
      repeat(first|refine Sp ?_|refine fun(_:Nat)=>?_)
      have c := refOf_spec l (l.length - 1) (by omega) (by omega) (fun x hx => isNameB_size (hall x hx))
      rw [of_placed] at c
      refine ACall.ret_lend (.one (.row _ _ _ _ _ _ _ rfl (show l.length - 1 ≤ (l.map AV.str).length by rw [List.length_map]; omega))) c rfl ?_
      repeat(first|refine Sp ?_|refine fun(_:Nat)=>?_)
      exact ⟨_, [], FinOk.drop _ _, by rw [e, e2]; rfl, rfl⟩

end Go.Proofs.YtcbjcmigecocgaaGreatDoor.HBT
/- The contract of the document's own order of places. -/
namespace Go.Proofs.YtcbjcmigecocgaaGreatDoor.HBT
open Go Go.Proofs.YtcbjcmigecocgaaGreatDoor.HB Go.RowKit
set_option maxRecDepth 8000

theorem refWeight_spec (c : UInt8) : FnSpec C 75 [.int .u8 c.toNat] [] (fun r L' => r = .int .i64 (rank c) ∧ L' = []) := by
  have hc := c.toNat_lt
  refine FnSpec.start C_ok Tryz.func75 rfl rfl Tryz.ntmps75 ?_
  repeat(first|refine Sp ?_|refine fun(_:Nat)=>?_)
  refine ⟨fun h => ?_, fun h => ?_⟩
  · have h : (c.toNat : Int) = 47 := h
    repeat(first|refine Sp ?_|refine fun(_:Nat)=>?_)
    exact ⟨_, [], FinOk.drop _ _, congrArg (AV.int .i64) (show (-1 : Int) = _ by unfold rank; rw [if_pos (by omega)]), rfl⟩
  · have h : ¬ (c.toNat : Int) = 47 := h
    repeat(first|refine Sp ?_|refine fun(_:Nat)=>?_)
    refine fun r hr => ?_
    have hr : r = (c.toNat : Int) := by rw [hr, IntKind.wrap_i64]; omega
    subst hr
    repeat(first|refine Sp ?_|refine fun(_:Nat)=>?_)
    exact ⟨_, [], FinOk.drop _ _, congrArg (AV.int .i64) (show (c.toNat : Int) = _ by unfold rank; rw [if_neg (by omega)]), rfl⟩

end Go.Proofs.YtcbjcmigecocgaaGreatDoor.HBT
/- The contract of the document's own order of places. -/
namespace Go.Proofs.YtcbjcmigecocgaaGreatDoor.HBT
open Go Go.Proofs.YtcbjcmigecocgaaGreatDoor.HB Go.RowKit
set_option maxRecDepth 8000

set_option maxHeartbeats 2000000 in
theorem refOrder_spec (a b : ByteArray) (ha : a.size ≤ 9223372036854775807) : FnSpec C 63 [.str a, .str b] [] (fun r L' => r = .int .i64 (orderB a b) ∧ L' = []) := by
  refine FnSpec.start C_ok Tryz.func63 rfl rfl Tryz.ntmps63 ?_
  have hla : a.data.toList.length = a.size := by rw [Array.length_toList]; rfl
  have hlb : b.data.toList.length = b.size := by rw [Array.length_toList]; rfl
  repeat(first|refine Sp ?_|refine fun(_:Nat)=>?_)
  refine Run.loop (fun k env L => ∃ i : Nat, k = a.size - i ∧ i ≤ a.size ∧ i ≤ b.size ∧ (orderB a b = orderL (a.data.toList.drop i) (b.data.toList.drop i)) ∧ env = [.str a, .str b, .junk, .junk, .junk, .int .i64 i, .junk, .junk, .junk, .junk, .junk, .junk, .junk, .junk, .junk, .junk, .junk, .junk, .junk, .junk, .junk, .junk, .junk, .junk, .junk, .junk, .junk, .junk, .junk, .junk, .junk, .junk, .junk, .junk, .junk, .junk, .junk, .junk, .junk, .junk, .junk, .junk, .junk, .junk] ∧ L = []) a.size [.str a, .str b, .junk, .junk, .junk, .int .i64 0, .junk, .junk, .junk, .junk, .junk, .junk, .junk, .junk, .junk, .junk, .junk, .junk, .junk, .junk, .junk, .junk, .junk, .junk, .junk, .junk, .junk, .junk, .junk, .junk, .junk, .junk, .junk, .junk, .junk, .junk, .junk, .junk, .junk, .junk, .junk, .junk, .junk, .junk] ?_ ⟨0, by omega, by omega, by omega, rfl, rfl, rfl⟩ ?_
  · repeat(first|exact trivial|refine ⟨.inl rfl, ?_⟩|refine ⟨.inr rfl, ?_⟩)
  rintro k env L ⟨i, rfl, hi, hib, hP, rfl, rfl⟩
  have fin : (i = a.size ∨ i = b.size) → orderB a b = if (a.size : Int) < b.size then -1 else if (b.size : Int) < a.size then 1 else 0 := fun hnn => by
    rw [hP]
    rcases hnn with e | e
    · rw [List.drop_of_length_le (l := a.data.toList) (by omega)]
      by_cases hab : a.size < b.size
      · rw [byte_at b i (by omega), if_pos (by omega)]; rfl
      · rw [List.drop_of_length_le (l := b.data.toList) (by omega), if_neg (by omega), if_neg (by omega)]; rfl
    · rw [List.drop_of_length_le (l := b.data.toList) (by omega)]
      by_cases hab : b.size < a.size
      · rw [byte_at a i (by omega), if_neg (by omega), if_pos (by omega)]; rfl
      · rw [List.drop_of_length_le (l := a.data.toList) (by omega), if_neg (by omega), if_neg (by omega)]; rfl
  repeat(first|refine Sp ?_|refine fun(_:Nat)=>?_)
  refine ⟨fun h => ?_, fun h => ?_⟩
  · have h : (i : Int) < (a.size : Int) := h
    have hia : i < a.size := by omega
    repeat(first|refine Sp ?_|refine fun(_:Nat)=>?_)
    refine ⟨fun h => ?_, fun h => ?_⟩
    · have h : (i : Int) < (b.size : Int) := h
      have hib : i < b.size := by omega
      repeat(first|refine Sp ?_|refine fun(_:Nat)=>?_)
      refine ⟨hia, ?_⟩
      repeat(first|refine Sp ?_|refine fun(_:Nat)=>?_)
      refine ACall.ret (refWeight_spec a[i]) ?_
      repeat(first|refine Sp ?_|refine fun(_:Nat)=>?_)
      refine ⟨hib, ?_⟩
      repeat(first|refine Sp ?_|refine fun(_:Nat)=>?_)
      refine ACall.ret (refWeight_spec b[i]) ?_
      repeat(first|refine Sp ?_|refine fun(_:Nat)=>?_)
      have e1 := byte_at a i hia
      have e2 := byte_at b i hib
      refine ⟨fun hl => ?_, fun hl => ?_⟩
      · have hl : rank a[i] < rank b[i] := hl
        repeat(first|refine Sp ?_|refine fun(_:Nat)=>?_)
        exact ⟨_, [], FinOk.drop _ _, congrArg (AV.int .i64) (show (-1 : Int) = _ by rw [hP, e1, e2]; simp only [orderL, hl, if_true]), rfl⟩
      · have hl : ¬ rank a[i] < rank b[i] := hl
        repeat(first|refine Sp ?_|refine fun(_:Nat)=>?_)
        refine ⟨fun hg => ?_, fun hg => ?_⟩
        · have hg : rank b[i] < rank a[i] := hg
          repeat(first|refine Sp ?_|refine fun(_:Nat)=>?_)
          exact ⟨_, [], FinOk.drop _ _, congrArg (AV.int .i64) (show (1 : Int) = _ by rw [hP, e1, e2]; simp only [orderL, hl, hg, if_true, if_false]), rfl⟩
        · have hg : ¬ rank b[i] < rank a[i] := hg
          repeat(first|refine Sp ?_|refine fun(_:Nat)=>?_)
          refine fun r hr => ?_
          obtain rfl := add1 hr (by omega)
          repeat(first|refine Sp ?_|refine fun(_:Nat)=>?_)
          refine Cont.lp ?_
          refine ⟨a.size - (i + 1), [.str a, .str b, .junk, .junk, .junk, .int .i64 (i + 1 : Nat), .junk, .junk, .junk, .junk, .junk, .junk, .junk, .junk, .junk, .junk, .junk, .junk, .junk, .junk, .junk, .junk, .junk, .junk, .junk, .junk, .junk, .junk, .junk, .junk, .junk, .junk, .junk, .junk, .junk, .junk, .junk, .junk, .junk, .junk, .junk, .junk, .junk, .junk], 99, by omega, ?_, ⟨i + 1, rfl, by omega, by omega, ?_, rfl, rfl⟩⟩
          · repeat(first|exact trivial|refine ⟨.inl rfl, ?_⟩|refine ⟨.inr rfl, ?_⟩)
          · rw [hP, e1, e2]; simp only [orderL, hl, hg, if_false]
    · have h : ¬ (i : Int) < (b.size : Int) := h
      have f := fin (.inr (by omega))
      repeat(first|refine Sp ?_|refine fun(_:Nat)=>?_)
      refine ⟨fun h => ?_, fun h => ?_⟩
      · have h : (a.size : Int) < (b.size : Int) := h
        repeat(first|refine Sp ?_|refine fun(_:Nat)=>?_)
        exact ⟨_, [], FinOk.drop _ _, congrArg (AV.int .i64) (show (-1 : Int) = _ by rw [f, if_pos h]), rfl⟩
      · have h : ¬ (a.size : Int) < (b.size : Int) := h
        repeat(first|refine Sp ?_|refine fun(_:Nat)=>?_)
        refine ⟨fun h2 => ?_, fun h2 => ?_⟩
        · have h2 : (b.size : Int) < (a.size : Int) := h2
          repeat(first|refine Sp ?_|refine fun(_:Nat)=>?_)
          exact ⟨_, [], FinOk.drop _ _, congrArg (AV.int .i64) (show (1 : Int) = _ by rw [f, if_neg h, if_pos h2]), rfl⟩
        · have h2 : ¬ (b.size : Int) < (a.size : Int) := h2
          repeat(first|refine Sp ?_|refine fun(_:Nat)=>?_)
          exact ⟨_, [], FinOk.drop _ _, congrArg (AV.int .i64) (show (0 : Int) = _ by rw [f, if_neg h, if_neg h2]), rfl⟩
  · have h : ¬ (i : Int) < (a.size : Int) := h
    have f := fin (.inl (by omega))
    repeat(first|refine Sp ?_|refine fun(_:Nat)=>?_)
    refine ⟨fun h => ?_, fun h => ?_⟩
    · have h : (a.size : Int) < (b.size : Int) := h
      repeat(first|refine Sp ?_|refine fun(_:Nat)=>?_)
      exact ⟨_, [], FinOk.drop _ _, congrArg (AV.int .i64) (show (-1 : Int) = _ by rw [f, if_pos h]), rfl⟩
    · have h : ¬ (a.size : Int) < (b.size : Int) := h
      repeat(first|refine Sp ?_|refine fun(_:Nat)=>?_)
      refine ⟨fun h2 => ?_, fun h2 => ?_⟩
      · have h2 : (b.size : Int) < (a.size : Int) := h2
        repeat(first|refine Sp ?_|refine fun(_:Nat)=>?_)
        exact ⟨_, [], FinOk.drop _ _, congrArg (AV.int .i64) (show (1 : Int) = _ by rw [f, if_neg h, if_pos h2]), rfl⟩
      · have h2 : ¬ (b.size : Int) < (a.size : Int) := h2
        repeat(first|refine Sp ?_|refine fun(_:Nat)=>?_)
        exact ⟨_, [], FinOk.drop _ _, congrArg (AV.int .i64) (show (0 : Int) = _ by rw [f, if_neg h, if_neg h2]), rfl⟩

end Go.Proofs.YtcbjcmigecocgaaGreatDoor.HBT
/- The contract of the document's own Below. -/
namespace Go.Proofs.YtcbjcmigecocgaaGreatDoor.HBT
open Go Go.Proofs.YtcbjcmigecocgaaGreatDoor.HB Go.RowKit
set_option maxRecDepth 8000

def namesR (s : ByteArray) : List ByteArray := if parseE s = 0 then namesOf s else []
def belowR (s above : ByteArray) : Prop := (namesR above).length < (namesR s).length ∧ (namesR s).take (namesR above).length = namesR above
noncomputable instance (s above : ByteArray) : Decidable (belowR s above) := Classical.propDecidable _

theorem namesR_le (s : ByteArray) : (namesR s).length ≤ 6 := by
  unfold namesR
  split
  · rename_i h; exact (names_ok h).1
  · simp
theorem parse_cases {s : ByteArray} {r : AV} {L' : AHeap} (hq : ParseR s r L') : ∃ e, (namesR s = [] ∧ r = .tuple [.nils, .int .i64 e] ∧ L' = []) ∨ (∃ g Cp, r = .tuple [.sl 0 g Cp (namesR s).length, .int .i64 e] ∧ L' = [(g, .row 9 1 Cp ((namesR s).map .str))]) := by
  rcases hq with ⟨h, rfl, rfl⟩ | ⟨h, hn, rfl, rfl⟩ | ⟨h, _, g, Cp, rfl, rfl⟩
  · exact ⟨_, .inl ⟨by unfold namesR; rw [if_neg h], rfl, rfl⟩⟩
  · exact ⟨_, .inl ⟨by unfold namesR; rw [if_pos h]; exact hn, rfl, rfl⟩⟩
  · have : namesR s = namesOf s := by unfold namesR; rw [if_pos h]
    exact ⟨_, .inr ⟨g, Cp, by rw [this], by rw [this]⟩⟩

set_option maxHeartbeats 1000000 in
theorem refBelow_spec (s above : ByteArray) : FnSpec C 32 [.str s, .str above] [] (fun r L' => r = .bool (decide (belowR s above)) ∧ L' = []) := by
  refine FnSpec.start C_ok Tryz.func32 rfl rfl Tryz.ntmps32 ?_
  have no : ¬ belowR s above → false = decide (belowR s above) := fun h => (decide_eq_false h).symm
  have yes : belowR s above → true = decide (belowR s above) := fun h => (decide_eq_true h).symm
  have hs6 := namesR_le s
  have ha6 := namesR_le above
  repeat(first|refine Sp ?_|refine fun(_:Nat)=>?_)
  refine ACall.pure _ (refParse_spec s) ?_
  intro r L' hq
  obtain ⟨e, ⟨hn, rfl, rfl⟩ | ⟨g, Cp, rfl, rfl⟩⟩ := parse_cases hq
  · refine ⟨_, Sub.refl _, ?_⟩
    have hb : ¬ belowR s above := fun h => by have := h.1; rw [hn] at this; cases this
    repeat(first|refine Sp ?_|refine fun(_:Nat)=>?_)
    refine ACall.pure _ (refParse_spec above) ?_
    intro r L' hq
    obtain ⟨e, ⟨hn2, rfl, rfl⟩ | ⟨g2, C2, rfl, rfl⟩⟩ := parse_cases hq
    · refine ⟨_, Sub.refl _, ?_⟩
      repeat(first|refine Sp ?_|refine fun(_:Nat)=>?_)
      refine ⟨fun _ => ?_, fun h => absurd (show (0 : Int) ≤ 0 by decide) h⟩
      repeat(first|refine Sp ?_|refine fun(_:Nat)=>?_)
      exact ⟨_, [], FinOk.drop _ _, congrArg AV.bool (no hb), rfl⟩
    · refine ⟨_, Sub.refl _, ?_⟩
      repeat(first|refine Sp ?_|refine fun(_:Nat)=>?_)
      refine ⟨fun _ => ?_, fun h => absurd (show (0 : Int) ≤ ((namesR above).length : Int) by omega) h⟩
      repeat(first|refine Sp ?_|refine fun(_:Nat)=>?_)
      exact ⟨_, [], FinOk.drop _ _, congrArg AV.bool (no hb), rfl⟩
  · refine ⟨_, Sub.refl _, ?_⟩
    repeat(first|refine Sp ?_|refine fun(_:Nat)=>?_)
    refine ACall.pure _ (refParse_spec above) ?_
    intro r L' hq
    obtain ⟨e2, ⟨hn2, rfl, rfl⟩ | ⟨g2, C2, rfl, rfl⟩⟩ := parse_cases hq
    · refine ⟨_, Sub.refl _, ?_⟩
      repeat(first|refine Sp ?_|refine fun(_:Nat)=>?_)
      refine ⟨fun h => ?_, fun h => ?_⟩
      · have h : ((namesR s).length : Int) ≤ 0 := h
        repeat(first|refine Sp ?_|refine fun(_:Nat)=>?_)
        exact ⟨_, [], FinOk.drop _ _, congrArg AV.bool (no (fun h2 => by have := h2.1; omega)), rfl⟩
      · have h : ¬ ((namesR s).length : Int) ≤ 0 := h
        have hb : belowR s above := ⟨by rw [hn2]; simp; omega, by rw [hn2]; rfl⟩
        repeat(first|refine Sp ?_|refine fun(_:Nat)=>?_)
        refine Run.loop (fun _ env L => env = [.junk, .junk, .junk, .junk, .junk, .junk, .junk, .nils, .junk, .int .i64 0, .junk, .junk, .junk, .junk, .junk, .junk, .junk, .junk, .junk, .junk, .junk, .junk, .junk, .junk, .junk, .junk, .junk, .junk, .junk, .junk, .junk, .junk, .junk, .junk, .junk, .junk, .junk, .junk, .junk, .junk] ∧ L = [(g, .row 9 1 Cp ((namesR s).map .str))]) 0 [.junk, .junk, .junk, .junk, .junk, .junk, .junk, .nils, .junk, .int .i64 0, .junk, .junk, .junk, .junk, .junk, .junk, .junk, .junk, .junk, .junk, .junk, .junk, .junk, .junk, .junk, .junk, .junk, .junk, .junk, .junk, .junk, .junk, .junk, .junk, .junk, .junk, .junk, .junk, .junk, .junk] ?_ ⟨rfl, rfl⟩ ?_
        · repeat(first|exact trivial|refine ⟨.inl rfl, ?_⟩|refine ⟨.inr rfl, ?_⟩)
        rintro k env L ⟨rfl, rfl⟩
        repeat(first|refine Sp ?_|refine fun(_:Nat)=>?_)
        refine ⟨fun h => absurd h (by decide), fun _ => ?_⟩
        repeat(first|refine Sp ?_|refine fun(_:Nat)=>?_)
        exact ⟨_, [], FinOk.drop _ _, congrArg AV.bool (yes hb), rfl⟩
    · refine ⟨.tuple [.sl 1 g2 C2 (namesR above).length, .int .i64 e2], Sub.tuples (.two (.sl _ _ _ _ _) (.refl _)), ?_⟩
      repeat(first|refine Sp ?_|refine fun(_:Nat)=>?_)
      refine ⟨fun h => ?_, fun h => ?_⟩
      · have h : ((namesR s).length : Int) ≤ ((namesR above).length : Int) := h
        repeat(first|refine Sp ?_|refine fun(_:Nat)=>?_)
        exact ⟨_, [], FinOk.drop _ _, congrArg AV.bool (no (fun h2 => by have := h2.1; omega)), rfl⟩
      · have h : ¬ ((namesR s).length : Int) ≤ ((namesR above).length : Int) := h
        repeat(first|refine Sp ?_|refine fun(_:Nat)=>?_)
        refine Run.loop (fun k env L => ∃ i : Nat, k = (namesR above).length - i ∧ i ≤ (namesR above).length ∧ (∀ j < i, (namesR s)[j]? = (namesR above)[j]?) ∧ env = [.junk, .junk, .junk, .junk, .junk, .sl 0 g Cp (namesR s).length, .junk, .sl 1 g2 C2 (namesR above).length, .junk, .int .i64 i, .junk, .junk, .junk, .junk, .junk, .junk, .junk, .junk, .junk, .junk, .junk, .junk, .junk, .junk, .junk, .junk, .junk, .junk, .junk, .junk, .junk, .junk, .junk, .junk, .junk, .junk, .junk, .junk, .junk, .junk] ∧ L = [(g, .row 9 1 Cp ((namesR s).map .str)), (g2, .row 9 1 C2 ((namesR above).map .str))]) (namesR above).length
          [.junk, .junk, .junk, .junk, .junk, .sl 0 g Cp (namesR s).length, .junk, .sl 1 g2 C2 (namesR above).length, .junk, .int .i64 0, .junk, .junk, .junk, .junk, .junk, .junk, .junk, .junk, .junk, .junk, .junk, .junk, .junk, .junk, .junk, .junk, .junk, .junk, .junk, .junk, .junk, .junk, .junk, .junk, .junk, .junk, .junk, .junk, .junk, .junk] ?_ ⟨0, by omega, by omega, (fun j hj => absurd hj (Nat.not_lt_zero j)), rfl, rfl⟩ ?_
        · repeat(first|exact trivial|refine ⟨.inl rfl, ?_⟩|refine ⟨.inr rfl, ?_⟩)
        rintro k env L ⟨i, rfl, hi, hP, rfl, rfl⟩
        repeat(first|refine Sp ?_|refine fun(_:Nat)=>?_)
        refine ⟨fun h2 => ?_, fun h2 => ?_⟩
        · have h2 : (i : Int) < ((namesR above).length : Int) := h2
          obtain ⟨x, ex⟩ : ∃ x, (namesR s)[i]? = some x := ⟨(namesR s)[i], List.getElem?_eq_getElem (by omega)⟩
          obtain ⟨y, ey⟩ : ∃ y, (namesR above)[i]? = some y := ⟨(namesR above)[i], List.getElem?_eq_getElem (by omega)⟩
          have ex' : ((namesR s).map AV.str)[i]? = some (.str x) := by rw [List.getElem?_map, ex]; rfl
          have ey' : ((namesR above).map AV.str)[i]? = some (.str y) := by rw [List.getElem?_map, ey]; rfl
          repeat(first|refine Sp ?_|refine fun(_:Nat)=>?_)
          refine Run.drawn true [0, 1, 2, 3, 4, 5, 6, 7, 8] (by kernel_rfl) ?_
          repeat(first|refine Sp ?_|refine fun(_:Nat)=>?_)
          refine ⟨show (i : Int) < ((namesR s).length : Int) by omega, ?_⟩
          repeat(first|refine Sp ?_|refine fun(_:Nat)=>?_)
          refine ⟨_, ex', ?_⟩
          repeat(first|refine Sp ?_|refine fun(_:Nat)=>?_)
          refine ⟨h2, ?_⟩
          repeat(first|refine Sp ?_|refine fun(_:Nat)=>?_)
          refine ⟨_, ey', ?_⟩
          repeat(first|refine Sp ?_|refine fun(_:Nat)=>?_)
          refine ⟨fun hne => ?_, fun heq => ?_⟩
          · have hne : x ≠ y := hne
            repeat(first|refine Sp ?_|refine fun(_:Nat)=>?_)
            exact ⟨_, [], FinOk.drop _ _, congrArg AV.bool (no (fun h3 => by
              have := congrArg (·[i]?) h3.2
              simp only [List.getElem?_take, show i < (namesR above).length by omega, if_true, ex, ey, Option.some.injEq] at this
              exact hne this)), rfl⟩
          · have heq : x = y := Classical.not_not.1 heq
            repeat(first|refine Sp ?_|refine fun(_:Nat)=>?_)
            refine fun r hr => ?_
            obtain rfl := add1 hr (by omega)
            repeat(first|refine Sp ?_|refine fun(_:Nat)=>?_)
            refine Cont.lp ?_
            refine ⟨(namesR above).length - (i + 1), [.junk, .junk, .junk, .junk, .junk, .sl 0 g Cp (namesR s).length, .junk, .sl 1 g2 C2 (namesR above).length, .junk, .int .i64 (i + 1 : Nat), .junk, .junk, .junk, .junk, .junk, .junk, .junk, .junk, .junk, .junk, .junk, .junk, .junk, .junk, .junk, .junk, .junk, .junk, .junk, .junk, .junk, .junk, .junk, .junk, .junk, .junk, .junk, .junk, .junk, .junk], 99, by omega, ?_, ⟨i + 1, rfl, by omega, ?_, rfl, rfl⟩⟩
            · repeat(first|exact trivial|refine ⟨.inl rfl, ?_⟩|refine ⟨.inr rfl, ?_⟩)
            · intro j hj
              by_cases e : j = i
              · subst e; rw [ex, ey, heq]
              · exact hP j (by omega)
        · have h2 : ¬ (i : Int) < ((namesR above).length : Int) := h2
          have hb : belowR s above := ⟨by omega, by
            apply List.ext_getElem?
            intro j
            rw [List.getElem?_take]
            split
            · exact hP j (by omega)
            · rw [List.getElem?_eq_none (by omega)]⟩
          repeat(first|refine Sp ?_|refine fun(_:Nat)=>?_)
          exact ⟨_, [], FinOk.drop _ _, congrArg AV.bool (yes hb), rfl⟩

end Go.Proofs.YtcbjcmigecocgaaGreatDoor.HBT
