/- The document's own Name. -/
import Derived.Test.YtcbjcmigecocgaaGreatDoorTwR1
import Derived.Test.YtcbjcmigecocgaaGreatDoorTwT5
import Derived.Test.YtcbjcmigecocgaaGreatDoorHbZe
set_option linter.unusedVariables false
set_option linter.unusedSimpArgs false
namespace Go.Proofs.YtcbjcmigecocgaaGreatDoor.HBT
open Go Go.Proofs.YtcbjcmigecocgaaGreatDoor.HB Go.RowKit
set_option maxRecDepth 8000

theorem refName_spec (s : ByteArray) : FnSpec C 64 [.str s] [] (fun r L' => r = .tuple [.str (nameB s), .int .i64 (parseE s)] ∧ L' = []) := by
  refine FnSpec.start C_ok Tryz.func64 rfl rfl Tryz.ntmps64 ?_
  repeat(first|refine Sc ?_|refine fun(_:Nat)=>?_)
  refine ACallT.ok (ACall.pure _ (refParse_spec s) ?_)
  rintro r L' (⟨h, rfl, rfl⟩ | ⟨h, hn, rfl, rfl⟩ | ⟨h, hn, g, Cp, rfl, rfl⟩)
  · refine ⟨_, Sub.refl _, ?_⟩
    repeat(first|refine Sc ?_|refine fun(_:Nat)=>?_)
    refine ⟨fun _ => ?_, fun e => absurd h e⟩
    repeat(first|refine Sc ?_|refine fun(_:Nat)=>?_)
    exact ⟨_, [], FinOk.drop _ _, by unfold nameB; rw [if_pos h]; rfl, rfl⟩
  · refine ⟨_, Sub.refl _, ?_⟩
    repeat(first|refine Sc ?_|refine fun(_:Nat)=>?_)
    refine ⟨fun e => absurd rfl e, fun _ => ?_⟩
    repeat(first|refine Sc ?_|refine fun(_:Nat)=>?_)
    refine ⟨fun _ => ?_, fun e => absurd rfl e⟩
    repeat(first|refine Sc ?_|refine fun(_:Nat)=>?_)
    exact ⟨_, [], FinOk.drop _ _, by unfold nameB; rw [if_neg (by rw [h]; decide), hn, h]; rfl, rfl⟩
  · refine ⟨_, Sub.refl _, ?_⟩
    repeat(first|refine Sc ?_|refine fun(_:Nat)=>?_)
    refine ⟨fun e => absurd rfl e, fun _ => ?_⟩
    repeat(first|refine Sc ?_|refine fun(_:Nat)=>?_)
    refine ⟨fun e => ?_, fun hne => ?_⟩
    · have e : ((namesOf s).length : Int) = 0 := e
      have e0 : namesOf s = [] := List.eq_nil_of_length_eq_zero (by omega)
      repeat(first|refine Sc ?_|refine fun(_:Nat)=>?_)
      exact ⟨_, [], FinOk.drop _ _, by unfold nameB; rw [if_neg (by rw [h]; decide), e0, h]; rfl, rfl⟩
    · have hne : ¬ ((namesOf s).length : Int) = 0 := hne
      obtain ⟨nm, hnm⟩ : ∃ nm, (namesOf s).getLast? = some nm := by
        cases e : (namesOf s).getLast? with
        | none => rw [List.getLast?_eq_none_iff] at e; rw [e] at hne; exact absurd rfl hne
        | some nm => exact ⟨nm, rfl⟩
      repeat(first|refine Sc ?_|refine fun(_:Nat)=>?_)
      refine fun r hr => ?_
      obtain rfl : r = (((namesOf s).length - 1 : Nat) : Int) := by rw [hr, IntKind.wrap_i64]; omega
      repeat(first|refine Sc ?_|refine fun(_:Nat)=>?_)
      refine ⟨by omega, ?_⟩
      repeat(first|refine Sc ?_|refine fun(_:Nat)=>?_)
      refine ⟨.str nm, last_at hnm, ?_⟩
      repeat(first|refine Sc ?_|refine fun(_:Nat)=>?_)
      exact ⟨_, [], FinOk.drop _ _, by unfold nameB; rw [if_neg (by rw [h]; decide), hnm, h]; rfl, rfl⟩
end Go.Proofs.YtcbjcmigecocgaaGreatDoor.HBT
/- The document's own Counted. -/
namespace Go.Proofs.YtcbjcmigecocgaaGreatDoor.HBT
open Go Go.Proofs.YtcbjcmigecocgaaGreatDoor.HB Go.RowKit
set_option maxRecDepth 8000

theorem wrap_u8 (v : Nat) : IntKind.u8.wrap (v : Int) = ((v % 256 : Nat) : Int) := by
  simp [IntKind.wrap, IntKind.signed, IntKind.bits]
def pw : Nat → Int := fun j => [10000, 1000, 100, 10, 1, 0].getD j 0
def accB (s : ByteArray) (k : Int) (j : Nat) : ByteArray := s ++ ⟨((digs k.toNat).take j).toArray⟩
theorem pw_next {j : Nat} (h : 0 < pw j) : (pw j).tdiv 10 = pw (j + 1) := by
  match j, h with
  | 0, _ => rfl
  | 1, _ => rfl
  | 2, _ => rfl
  | 3, _ => rfl
  | 4, _ => rfl
  | j + 5, h =>
    have : pw (j + 5) = 0 := by cases j <;> rfl
    rw [this] at h; cases h
theorem pw_five {j : Nat} (h : 0 < pw j) : j < 5 := by
  match j, h with
  | 0, _ => decide
  | 1, _ => decide
  | 2, _ => decide
  | 3, _ => decide
  | 4, _ => decide
  | j + 5, h =>
    have : pw (j + 5) = 0 := by cases j <;> rfl
    rw [this] at h; cases h
theorem pw_range (j : Nat) : 0 ≤ pw j ∧ pw j ≤ 10000 := by
  match j with
  | 0 => decide
  | 1 => decide
  | 2 => decide
  | 3 => decide
  | 4 => decide
  | j + 5 =>
    have : pw (j + 5) = 0 := by cases j <;> rfl
    rw [this]; decide
theorem dig_at (K : Nat) {j : Nat} (h : 0 < pw j) : ∃ P : Nat, pw j = P ∧ 0 < P ∧ (digs K)[j]? = some (UInt8.ofNat (48 + K / P % 10)) := by
  match j, h with
  | 0, _ => exact ⟨10000, rfl, by decide, rfl⟩
  | 1, _ => exact ⟨1000, rfl, by decide, rfl⟩
  | 2, _ => exact ⟨100, rfl, by decide, rfl⟩
  | 3, _ => exact ⟨10, rfl, by decide, rfl⟩
  | 4, _ => exact ⟨1, rfl, by decide, by rw [Nat.div_one]; rfl⟩
  | j + 5, h =>
    have : pw (j + 5) = 0 := by cases j <;> rfl
    rw [this] at h; cases h
set_option maxHeartbeats 4000000 in
theorem refCounted_spec (s : ByteArray) (k : Int) (hs : s.size ≤ 1000) : FnSpec C 62 [.str s, .int .i64 k] [] (fun r L' => r = .tuple [.str (if countedE s k = 0 then countedB s k else eS), .int .i64 (countedE s k)] ∧ L' = []) := by
  refine FnSpec.start C_ok Tryz.func62 rfl rfl Tryz.ntmps62 ?_
  repeat(first|refine Sz ?_|refine fun(_:Nat)=>?_)
  refine CallZ.plain (ACallT.ok (ACall.pure _ (refParse_spec s) ?_))
  rintro r L' (⟨h, rfl, rfl⟩ | ⟨h, hn, rfl, rfl⟩ | ⟨h, hn, g, Cp, rfl, rfl⟩)
  · refine ⟨_, Sub.refl _, ?_⟩
    repeat(first|refine Sz ?_|refine fun(_:Nat)=>?_)
    refine ⟨fun _ => ?_, fun e => absurd h e⟩
    repeat(first|refine Sz ?_|refine fun(_:Nat)=>?_)
    have ec : countedE s k = parseE s := by unfold countedE; rw [if_pos h]
    exact ⟨_, [], FinOk.drop _ _, by rw [ec, if_neg h]; rfl, rfl⟩
  · have ec : countedE s k = 47 := by unfold countedE; rw [if_neg (by rw [h]; decide), if_pos hn]
    refine ⟨_, Sub.refl _, ?_⟩
    repeat(first|refine Sz ?_|refine fun(_:Nat)=>?_)
    refine ⟨fun e => absurd rfl e, fun _ => ?_⟩
    repeat(first|refine Sz ?_|refine fun(_:Nat)=>?_)
    refine ⟨fun _ => ?_, fun e => absurd rfl e⟩
    repeat(first|refine Sz ?_|refine fun(_:Nat)=>?_)
    exact ⟨_, [], FinOk.drop _ _, by rw [ec]; rfl, rfl⟩
  · obtain ⟨h1, h2⟩ := place_names h
    refine ⟨_, Sub.refl _, ?_⟩
    repeat(first|refine Sz ?_|refine fun(_:Nat)=>?_)
    refine ⟨fun e => absurd rfl e, fun _ => ?_⟩
    repeat(first|refine Sz ?_|refine fun(_:Nat)=>?_)
    refine ⟨fun e => ?_, fun hne => ?_⟩
    · have e : ((namesOf s).length : Int) = 0 := e
      have e0 : namesOf s = [] := List.eq_nil_of_length_eq_zero (by omega)
      have ec : countedE s k = 47 := by unfold countedE; rw [if_neg (by rw [h]; decide), if_pos e0]
      repeat(first|refine Sz ?_|refine fun(_:Nat)=>?_)
      exact ⟨_, [], FinOk.drop _ _, by rw [ec]; rfl, rfl⟩
    have hne : ¬ ((namesOf s).length : Int) = 0 := hne
    have hn0 : namesOf s ≠ [] := fun e => hne (by rw [e]; rfl)
    obtain ⟨nm, hnm⟩ : ∃ nm, (namesOf s).getLast? = some nm := ⟨_, List.getLast?_eq_some_getLast hn0⟩
    have hlb : longB s = decide (11 < nm.size) := by unfold longB; rw [hnm]
    repeat(first|refine Sz ?_|refine fun(_:Nat)=>?_)
    refine fun r hr => ?_
    obtain rfl : r = (((namesOf s).length - 1 : Nat) : Int) := by rw [hr, IntKind.wrap_i64]; omega
    repeat(first|refine Sz ?_|refine fun(_:Nat)=>?_)
    refine ⟨by omega, ?_⟩
    repeat(first|refine Sz ?_|refine fun(_:Nat)=>?_)
    refine ⟨.str nm, last_at hnm, ?_⟩
    repeat(first|refine Sz ?_|refine fun(_:Nat)=>?_)
    have hce : countedE s k = if longB s then 10 else if k < 0 ∨ 99999 < k then 1 else 0 := by unfold countedE; rw [if_neg (by rw [h]; decide), if_neg hn0]
    refine ⟨fun e => ?_, fun e => ?_⟩
    · have e : (11 : Int) < (nm.size : Int) := e
      have ec : countedE s k = 10 := by rw [hce, hlb, if_pos (by simp; omega)]
      repeat(first|refine Sz ?_|refine fun(_:Nat)=>?_)
      exact ⟨_, [], FinOk.drop _ _, by rw [ec]; rfl, rfl⟩
    have e11 : ¬ (11 : Int) < (nm.size : Int) := e
    have hce : countedE s k = if k < 0 ∨ 99999 < k then 1 else 0 := by rw [hce, hlb, if_neg (by simp; omega)]
    repeat(first|refine Sz ?_|refine fun(_:Nat)=>?_)
    refine ⟨fun e => ?_, fun e => ?_⟩
    · have e : k < 0 := e
      have ec : countedE s k = 1 := by rw [hce, if_pos (.inl e)]
      repeat(first|refine Sz ?_|refine fun(_:Nat)=>?_)
      exact ⟨_, [], FinOk.drop _ _, by rw [ec]; rfl, rfl⟩
    have ek0 : ¬ k < 0 := e
    repeat(first|refine Sz ?_|refine fun(_:Nat)=>?_)
    refine ⟨fun e => ?_, fun e => ?_⟩
    · have e : 99999 < k := e
      have ec : countedE s k = 1 := by rw [hce, if_pos (.inr e)]
      repeat(first|refine Sz ?_|refine fun(_:Nat)=>?_)
      exact ⟨_, [], FinOk.drop _ _, by rw [ec]; rfl, rfl⟩
    have ek1 : ¬ 99999 < k := e
    have ec : countedE s k = 0 := by rw [hce, if_neg (by omega)]
    rw [ec, if_pos rfl]
    repeat(first|refine Sz ?_|refine fun(_:Nat)=>?_)
    refine Run.loopW (fun m env L => ∃ j : Nat, m = 6 - j ∧ j ≤ 5 ∧ env = [.str s, .int .i64 k, .junk, .junk, .junk, .junk, .junk, .junk, .str (accB s k j), .int .i64 (pw j), .junk, .junk, .junk, .junk, .junk, .junk, .junk, .junk, .junk, .junk, .junk, .junk, .junk, .junk, .junk, .junk, .junk, .junk, .junk, .junk, .junk, .junk, .junk, .junk, .junk, .junk, .junk, .junk, .junk, .junk, .junk, .junk, .junk, .junk, .junk, .junk, .junk, .junk, .junk, .junk, .junk] ∧ L = []) 6
      [.str s, .int .i64 k, .junk, .junk, .junk, .junk, .junk, .junk, .str (accB s k 0), .int .i64 (pw 0), .junk, .junk, .junk, .junk, .junk, .junk, .junk, .junk, .junk, .junk, .junk, .junk, .junk, .junk, .junk, .junk, .junk, .junk, .junk, .junk, .junk, .junk, .junk, .junk, .junk, .junk, .junk, .junk, .junk, .junk, .junk, .junk, .junk, .junk, .junk, .junk, .junk, .junk, .junk, .junk, .junk] [] (Weak.sel ?_ [] (by decide) ?_) ⟨0, by omega, by omega, rfl, rfl⟩ ?_
    · have : accB s k 0 = s := by
        apply bytes_inj
        unfold accB
        simp [ByteArray.data_append]
      rw [this]
      exact Ss
    · exact Sl
    rintro m env L ⟨j, rfl, hj, rfl, rfl⟩
    repeat(first|refine Sz ?_|refine fun(_:Nat)=>?_)
    refine ⟨fun hp => ?_, fun hp => ?_⟩
    · have hp : 0 < pw j := hp
      repeat(first|refine Sz ?_|refine fun(_:Nat)=>?_)
      refine ⟨by omega, ?_⟩
      repeat(first|refine Sz ?_|refine fun(_:Nat)=>?_)
      obtain ⟨K, rfl⟩ : ∃ K : Nat, k = K := ⟨k.toNat, by omega⟩
      obtain ⟨P, hP, hP0, hdig⟩ := dig_at K hp
      rw [hP]
      have hq : K / P ≤ K := Nat.div_le_self K P
      have e1 : (K : Int).tdiv P = ((K / P : Nat) : Int) := (Int.ofNat_tdiv K P).symm
      generalize K / P = Q at hq e1 hdig
      have e2 : (Q : Int).tmod 10 = ((Q % 10 : Nat) : Int) := (Int.ofNat_tmod Q 10).symm
      have hmod : Q % 10 < 10 := Nat.mod_lt _ (by decide)
      generalize Q % 10 = M at e2 hmod hdig
      refine fun r hr => ?_
      obtain rfl : r = (Q : Int) := by
        rw [hr, e1, IntKind.wrap_i64]; omega
      repeat(first|refine Sz ?_|refine fun(_:Nat)=>?_)
      refine ⟨by decide, ?_⟩
      repeat(first|refine Sz ?_|refine fun(_:Nat)=>?_)
      refine fun r hr => ?_
      obtain rfl : r = (M : Int) := by rw [hr]; exact e2
      repeat(first|refine Sz ?_|refine fun(_:Nat)=>?_)
      refine fun r hr => ?_
      obtain rfl : r = ((48 + M : Nat) : Int) := by
        rw [hr, IntKind.wrap_i64]; omega
      repeat(first|refine Sz ?_|refine fun(_:Nat)=>?_)
      refine fun r hr => ?_
      obtain rfl : r = ((48 + M : Nat) : Int) := by
        rw [hr, wrap_u8]; omega
      repeat(first|refine Sz ?_|refine fun(_:Nat)=>?_)
      refine ⟨[((48 + M : Nat) : Int)], rfl, ?_⟩
      repeat(first|refine Sz ?_|refine fun(_:Nat)=>?_)
      have e3 : accB s K j ++ strI [((48 + M : Nat) : Int)] = accB s K (j + 1) := by
        apply bytes_inj
        unfold accB strI
        simp only [Int.toNat_natCast, ByteArray.data_append, Array.toList_append]
        obtain ⟨g1, g2⟩ := List.getElem?_eq_some_iff.1 hdig
        rw [List.take_succ_eq_append_getElem g1, g2, List.append_assoc]
        rfl
      refine ⟨?_, ?_⟩
      · have h1 : (accB s K j).size ≤ 2000 := by
          rw [size_list]
          unfold accB
          simp only [ByteArray.data_append, Array.toList_append, List.length_append, List.length_take]
          rw [← size_list]
          omega
        have h2 : (strI [((48 + M : Nat) : Int)]).size = 1 := rfl
        omega
      rw [e3]
      repeat(first|refine Sz ?_|refine fun(_:Nat)=>?_)
      refine ⟨by decide, ?_⟩
      repeat(first|refine Sz ?_|refine fun(_:Nat)=>?_)
      refine fun r hr => ?_
      obtain rfl : r = pw (j + 1) := by
        rw [hr, ← hP, pw_next hp, IntKind.wrap_i64]
        have h1 := pw_range (j + 1)
        omega
      repeat(first|refine Sz ?_|refine fun(_:Nat)=>?_)
      refine Cont.lpW ?_
      refine ⟨6 - (j + 1), _, _, by omega, Weak.sel ?_ [] (by decide) ?_, ⟨j + 1, rfl, by have := pw_five hp; omega, rfl, rfl⟩⟩
      · exact Ss
      · exact Sl
    · have hp : ¬ 0 < pw j := hp
      have hj5 : j = 5 := by
        match j, hj, hp with
        | 0, _, hp => exact absurd (by decide) hp
        | 1, _, hp => exact absurd (by decide) hp
        | 2, _, hp => exact absurd (by decide) hp
        | 3, _, hp => exact absurd (by decide) hp
        | 4, _, hp => exact absurd (by decide) hp
        | 5, _, _ => rfl
      subst hj5
      repeat(first|refine Sz ?_|refine fun(_:Nat)=>?_)
      exact ⟨_, [], FinOk.drop _ _, rfl, rfl⟩
end Go.Proofs.YtcbjcmigecocgaaGreatDoor.HBT
