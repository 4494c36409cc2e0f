/- The document's static. -/
import Derived.Test.YtcbjcmigecocgaaGreatDoorTwU2
set_option linter.unusedVariables false
set_option linter.unusedSimpArgs false
namespace Go.Proofs.YtcbjcmigecocgaaGreatDoor.HBT
open Go Go.Proofs.YtcbjcmigecocgaaGreatDoor.HB Go.RowKit
set_option maxRecDepth 8000

theorem refParse_slash : FnSpec C 30 [.str slash] [] (fun r L' => r = .tuple [.nils, .int .i64 0] ∧ L' = []) := by
  refine FnSpec.start C_ok Tryz.func30 rfl rfl Tryz.ntmps30 ?_
  repeat(first|refine Sc ?_|refine fun(_:Nat)=>?_)
  refine ⟨fun h => absurd h (by decide), fun _ => ?_⟩
  repeat(first|refine Sc ?_|refine fun(_:Nat)=>?_)
  refine ⟨fun _ => ?_, fun h => absurd rfl h⟩
  repeat(first|refine Sc ?_|refine fun(_:Nat)=>?_)
  exact ⟨_, [], FinOk.drop _ _, rfl, rfl⟩
set_option maxHeartbeats 4000000 in
theorem refStatic_spec (s : Int) (o : Opp) : FnSpec C 43 [.int .i64 s, encO o] [] (fun r L' => r = .int .i64 (staticF s o) ∧ L' = []) := by
  refine FnSpec.start C_ok Tryz.func43 rfl rfl Tryz.ntmps43 ?_
  repeat(first|refine Sc ?_|refine fun(_:Nat)=>?_)
  refine ⟨fun k0 => ?_, fun k0 => ?_⟩
  · have k0 : o.k < 1 := k0
    repeat(first|refine Sc ?_|refine fun(_:Nat)=>?_)
    exact ⟨_, [], FinOk.drop _ _, by rw [show staticF s o = 48 from by unfold staticF; rw [if_pos (.inl k0)]]; rfl, rfl⟩
  have k0 : ¬ o.k < 1 := k0
  repeat(first|refine Sc ?_|refine fun(_:Nat)=>?_)
  refine ⟨fun k7 => ?_, fun k7 => ?_⟩
  · have k7 : 7 < o.k := k7
    repeat(first|refine Sc ?_|refine fun(_:Nat)=>?_)
    exact ⟨_, [], FinOk.drop _ _, by rw [show staticF s o = 48 from by unfold staticF; rw [if_pos (.inr k7)]]; rfl, rfl⟩
  have k7 : ¬ 7 < o.k := k7
  by_cases hk : o.k = 1
  · repeat(first|refine Sc ?_|refine fun(_:Nat)=>?_)
    refine ⟨fun _ => ?_, fun h => absurd hk h⟩
    repeat(first|refine Sc ?_|refine fun(_:Nat)=>?_)
    refine ⟨fun f0 => ?_, fun f0 => ?_⟩
    · have f0 : o.f < 0 := f0
      repeat(first|refine Sc ?_|refine fun(_:Nat)=>?_)
      exact ⟨_, [], FinOk.drop _ _, by rw [show staticF s o = 48 from by unfold staticF; rw [if_neg (show ¬ (o.k < 1 ∨ 7 < o.k) by omega), if_pos ⟨hk, .inl f0⟩]]; rfl, rfl⟩
    have f0 : ¬ o.f < 0 := f0
    repeat(first|refine Sc ?_|refine fun(_:Nat)=>?_)
    refine ⟨fun f3 => ?_, fun f3 => ?_⟩
    · have f3 : 3 < o.f := f3
      repeat(first|refine Sc ?_|refine fun(_:Nat)=>?_)
      exact ⟨_, [], FinOk.drop _ _, by rw [show staticF s o = 48 from by unfold staticF; rw [if_neg (show ¬ (o.k < 1 ∨ 7 < o.k) by omega), if_pos ⟨hk, .inr f3⟩]]; rfl, rfl⟩
    have f3 : ¬ 3 < o.f := f3
    by_cases hsl : o.p = slash
    · have hp : parseE o.p = 0 := by rw [hsl]; exact parse_slash
      have hn : namesOf o.p = [] := by rw [hsl]; exact names_slash
      have hlb : longB o.p = false := by unfold longB; rw [hn]; rfl
      repeat(first|refine Sc ?_|refine fun(_:Nat)=>?_)
      refine ACallT.ok (ACall.ret (by rw [hsl]; exact refParse_slash) ?_)
      repeat(first|refine Sc ?_|refine fun(_:Nat)=>?_)
      refine ⟨fun e => absurd rfl e, fun _ => ?_⟩
      repeat(first|refine Sc ?_|refine fun(_:Nat)=>?_)
      refine ⟨fun _ => ?_, fun h => absurd hk h⟩
      repeat(first|refine Sc ?_|refine fun(_:Nat)=>?_)
      refine ⟨fun f2 => ?_, fun f2 => ?_⟩
      · have f2 : 2 ≤ o.f := f2
        repeat(first|refine Sc ?_|refine fun(_:Nat)=>?_)
        refine ⟨fun h => absurd h (by decide), fun _ => ?_⟩
        repeat(first|refine Sc ?_|refine fun(_:Nat)=>?_)
        refine ⟨fun _ => ?_, fun h => absurd rfl h⟩
        repeat(first|refine Sc ?_|refine fun(_:Nat)=>?_)
        refine ⟨fun _ => ?_, fun h => absurd hk h⟩
        repeat(first|refine Sc ?_|refine fun(_:Nat)=>?_)
        exact ⟨_, [], FinOk.drop _ _, by rw [show staticF s o = 47 from by unfold staticF; rw [if_neg (show ¬ (o.k < 1 ∨ 7 < o.k) by omega), if_neg (show ¬ (o.k = 1 ∧ (o.f < 0 ∨ 3 < o.f)) by omega), if_neg (show ¬ parseE o.p ≠ 0 from fun e => e hp), if_neg (show ¬ (o.k = 1 ∧ 2 ≤ o.f ∧ longB o.p = true) from fun e => by rw [hlb] at e; cases e.2.2), if_pos ⟨hn, .inl hk⟩]]; rfl, rfl⟩
      have f2 : ¬ 2 ≤ o.f := f2
      repeat(first|refine Sc ?_|refine fun(_:Nat)=>?_)
      refine ⟨fun _ => ?_, fun h => absurd rfl h⟩
      repeat(first|refine Sc ?_|refine fun(_:Nat)=>?_)
      refine ⟨fun _ => ?_, fun h => absurd hk h⟩
      repeat(first|refine Sc ?_|refine fun(_:Nat)=>?_)
      exact ⟨_, [], FinOk.drop _ _, by rw [show staticF s o = 47 from by unfold staticF; rw [if_neg (show ¬ (o.k < 1 ∨ 7 < o.k) by omega), if_neg (show ¬ (o.k = 1 ∧ (o.f < 0 ∨ 3 < o.f)) by omega), if_neg (show ¬ parseE o.p ≠ 0 from fun e => e hp), if_neg (show ¬ (o.k = 1 ∧ 2 ≤ o.f ∧ longB o.p = true) from fun e => f2 e.2.1), if_pos ⟨hn, .inl hk⟩]]; rfl, rfl⟩
    repeat(first|refine Sc ?_|refine fun(_:Nat)=>?_)
    refine ACallT.ok (ACall.pure _ (refParse_spec o.p) ?_)
    rintro r L' (⟨hp, rfl, rfl⟩ | ⟨hp, hn, rfl, rfl⟩ | ⟨hp, hn6, g, Cp, rfl, rfl⟩)
    · refine ⟨_, Sub.refl _, ?_⟩
      repeat(first|refine Sc ?_|refine fun(_:Nat)=>?_)
      refine ⟨fun _ => ?_, fun e => absurd hp e⟩
      repeat(first|refine Sc ?_|refine fun(_:Nat)=>?_)
      exact ⟨_, [], FinOk.drop _ _, by rw [show staticF s o = 10 from by unfold staticF; rw [if_neg (show ¬ (o.k < 1 ∨ 7 < o.k) by omega), if_neg (show ¬ (o.k = 1 ∧ (o.f < 0 ∨ 3 < o.f)) by omega), if_pos hp]]; rfl, rfl⟩
    · exact absurd ((names_iff hp).1 hn) hsl
    · refine ⟨.tuple [.sl 1 g Cp (namesOf o.p).length, .int .i64 0], Sub.tuples ⟨Sub.sl _ _ _ _ _, Sub.refl _, trivial⟩, ?_⟩
      have hne : namesOf o.p ≠ [] := fun e => hsl ((names_iff hp).1 e)
      have hpos : 0 < (namesOf o.p).length := List.length_pos_iff.2 hne
      obtain ⟨nm, hnm⟩ : ∃ nm, (namesOf o.p).getLast? = some nm := ⟨_, List.getLast?_eq_some_getLast hne⟩
      have hlb : longB o.p = decide (11 < nm.size) := by unfold longB; rw [hnm]
      repeat(first|refine Sc ?_|refine fun(_:Nat)=>?_)
      refine ⟨fun e => absurd rfl e, fun _ => ?_⟩
      repeat(first|refine Sc ?_|refine fun(_:Nat)=>?_)
      refine ⟨fun _ => ?_, fun h => absurd hk h⟩
      repeat(first|refine Sc ?_|refine fun(_:Nat)=>?_)
      refine ⟨fun f2 => ?_, fun f2 => ?_⟩
      · have f2 : 2 ≤ o.f := f2
        repeat(first|refine Sc ?_|refine fun(_:Nat)=>?_)
        refine ⟨fun _ => ?_, fun h => absurd (show (0 : Int) < ((namesOf o.p).length : Int) by omega) h⟩
        repeat(first|refine Sc ?_|refine fun(_:Nat)=>?_)
        refine fun r hr => ?_
        obtain rfl : r = (((namesOf o.p).length - 1 : Nat) : Int) := by rw [hr, IntKind.wrap_i64]; omega
        repeat(first|refine Sc ?_|refine fun(_:Nat)=>?_)
        refine ⟨by omega, ?_⟩
        repeat(first|refine Sc ?_|refine fun(_:Nat)=>?_)
        refine ⟨.str nm, last_at hnm, ?_⟩
        repeat(first|refine Sc ?_|refine fun(_:Nat)=>?_)
        refine ⟨fun h11 => ?_, fun h11 => ?_⟩
        · have h11 : (11 : Int) < (nm.size : Int) := h11
          repeat(first|refine Sc ?_|refine fun(_:Nat)=>?_)
          exact ⟨_, [], FinOk.drop _ _, by rw [show staticF s o = 10 from by unfold staticF; rw [if_neg (show ¬ (o.k < 1 ∨ 7 < o.k) by omega), if_neg (show ¬ (o.k = 1 ∧ (o.f < 0 ∨ 3 < o.f)) by omega), if_neg (show ¬ parseE o.p ≠ 0 from fun e => e hp), if_pos (show o.k = 1 ∧ 2 ≤ o.f ∧ longB o.p = true from ⟨hk, f2, by rw [hlb]; exact decide_eq_true (by omega)⟩)]]; rfl, rfl⟩
        have h11 : ¬ (11 : Int) < (nm.size : Int) := h11
        repeat(first|refine Sc ?_|refine fun(_:Nat)=>?_)
        refine ⟨fun h => absurd h (show ¬ ((namesOf o.p).length : Int) = 0 by omega), fun _ => ?_⟩
        repeat(first|refine Sc ?_|refine fun(_:Nat)=>?_)
        refine ⟨fun _ => ?_, fun h => absurd hk h⟩
        repeat(first|refine Sc ?_|refine fun(_:Nat)=>?_)
        refine ⟨fun h => absurd h (by decide), fun r hr => ?_⟩
        obtain rfl : r = o.f % 2 := by rw [hr, Int.tmod_eq_emod_of_nonneg (by omega)]
        repeat(first|refine Sc ?_|refine fun(_:Nat)=>?_)
        refine ⟨fun hm => ?_, fun hm => ?_⟩
        · have hm : o.f % 2 = 1 := hm
          repeat(first|refine Sc ?_|refine fun(_:Nat)=>?_)
          refine ⟨fun hs => ?_, fun hs => ?_⟩
          · have hs : s = 0 := hs
            repeat(first|refine Sc ?_|refine fun(_:Nat)=>?_)
            exact ⟨_, [], FinOk.drop _ _, by rw [show staticF s o = 44 from by unfold staticF; rw [if_neg (show ¬ (o.k < 1 ∨ 7 < o.k) by omega), if_neg (show ¬ (o.k = 1 ∧ (o.f < 0 ∨ 3 < o.f)) by omega), if_neg (show ¬ parseE o.p ≠ 0 from fun e => e hp), if_neg (show ¬ (o.k = 1 ∧ 2 ≤ o.f ∧ longB o.p = true) from fun e => by rw [hlb] at e; exact h11 (by have := of_decide_eq_true e.2.2; omega)), if_neg (show ¬ (namesOf o.p = [] ∧ (o.k = 1 ∨ o.k = 3)) from fun e => hne e.1), if_pos ⟨hk, hm, hs⟩]]; rfl, rfl⟩
          have hs : ¬ s = 0 := hs
          repeat(first|refine Sc ?_|refine fun(_:Nat)=>?_)
          refine ⟨fun _ => ?_, fun h => absurd hk h⟩
          repeat(first|refine Sc ?_|refine fun(_:Nat)=>?_)
          refine ⟨fun hd => ?_, fun hd => ?_⟩
          · have hd : (64 : Int) < (o.d.size : Int) := hd
            repeat(first|refine Sc ?_|refine fun(_:Nat)=>?_)
            exact ⟨_, [], FinOk.drop _ _, by rw [show staticF s o = 45 from by unfold staticF; rw [if_neg (show ¬ (o.k < 1 ∨ 7 < o.k) by omega), if_neg (show ¬ (o.k = 1 ∧ (o.f < 0 ∨ 3 < o.f)) by omega), if_neg (show ¬ parseE o.p ≠ 0 from fun e => e hp), if_neg (show ¬ (o.k = 1 ∧ 2 ≤ o.f ∧ longB o.p = true) from fun e => by rw [hlb] at e; exact h11 (by have := of_decide_eq_true e.2.2; omega)), if_neg (show ¬ (namesOf o.p = [] ∧ (o.k = 1 ∨ o.k = 3)) from fun e => hne e.1), if_neg (show ¬ (o.k = 1 ∧ o.f % 2 = 1 ∧ s = 0) from fun e => hs e.2.2), if_pos (show (o.k = 1 ∨ o.k = 2) ∧ 64 < o.d.size from ⟨.inl hk, by omega⟩)]]; rfl, rfl⟩
          have hd : ¬ (64 : Int) < (o.d.size : Int) := hd
          repeat(first|refine Sc ?_|refine fun(_:Nat)=>?_)
          exact ⟨_, [], FinOk.drop _ _, by rw [show staticF s o = 0 from by unfold staticF; rw [if_neg (show ¬ (o.k < 1 ∨ 7 < o.k) by omega), if_neg (show ¬ (o.k = 1 ∧ (o.f < 0 ∨ 3 < o.f)) by omega), if_neg (show ¬ parseE o.p ≠ 0 from fun e => e hp), if_neg (show ¬ (o.k = 1 ∧ 2 ≤ o.f ∧ longB o.p = true) from fun e => by rw [hlb] at e; exact h11 (by have := of_decide_eq_true e.2.2; omega)), if_neg (show ¬ (namesOf o.p = [] ∧ (o.k = 1 ∨ o.k = 3)) from fun e => hne e.1), if_neg (show ¬ (o.k = 1 ∧ o.f % 2 = 1 ∧ s = 0) from fun e => hs e.2.2), if_neg (show ¬ ((o.k = 1 ∨ o.k = 2) ∧ 64 < o.d.size) from fun e => hd (by omega))]]; rfl, rfl⟩
        have hm : ¬ o.f % 2 = 1 := hm
        repeat(first|refine Sc ?_|refine fun(_:Nat)=>?_)
        refine ⟨fun _ => ?_, fun h => absurd hk h⟩
        repeat(first|refine Sc ?_|refine fun(_:Nat)=>?_)
        refine ⟨fun hd => ?_, fun hd => ?_⟩
        · have hd : (64 : Int) < (o.d.size : Int) := hd
          repeat(first|refine Sc ?_|refine fun(_:Nat)=>?_)
          exact ⟨_, [], FinOk.drop _ _, by rw [show staticF s o = 45 from by unfold staticF; rw [if_neg (show ¬ (o.k < 1 ∨ 7 < o.k) by omega), if_neg (show ¬ (o.k = 1 ∧ (o.f < 0 ∨ 3 < o.f)) by omega), if_neg (show ¬ parseE o.p ≠ 0 from fun e => e hp), if_neg (show ¬ (o.k = 1 ∧ 2 ≤ o.f ∧ longB o.p = true) from fun e => by rw [hlb] at e; exact h11 (by have := of_decide_eq_true e.2.2; omega)), if_neg (show ¬ (namesOf o.p = [] ∧ (o.k = 1 ∨ o.k = 3)) from fun e => hne e.1), if_neg (show ¬ (o.k = 1 ∧ o.f % 2 = 1 ∧ s = 0) from fun e => hm e.2.1), if_pos (show (o.k = 1 ∨ o.k = 2) ∧ 64 < o.d.size from ⟨.inl hk, by omega⟩)]]; rfl, rfl⟩
        have hd : ¬ (64 : Int) < (o.d.size : Int) := hd
        repeat(first|refine Sc ?_|refine fun(_:Nat)=>?_)
        exact ⟨_, [], FinOk.drop _ _, by rw [show staticF s o = 0 from by unfold staticF; rw [if_neg (show ¬ (o.k < 1 ∨ 7 < o.k) by omega), if_neg (show ¬ (o.k = 1 ∧ (o.f < 0 ∨ 3 < o.f)) by omega), if_neg (show ¬ parseE o.p ≠ 0 from fun e => e hp), if_neg (show ¬ (o.k = 1 ∧ 2 ≤ o.f ∧ longB o.p = true) from fun e => by rw [hlb] at e; exact h11 (by have := of_decide_eq_true e.2.2; omega)), if_neg (show ¬ (namesOf o.p = [] ∧ (o.k = 1 ∨ o.k = 3)) from fun e => hne e.1), if_neg (show ¬ (o.k = 1 ∧ o.f % 2 = 1 ∧ s = 0) from fun e => hm e.2.1), if_neg (show ¬ ((o.k = 1 ∨ o.k = 2) ∧ 64 < o.d.size) from fun e => hd (by omega))]]; rfl, rfl⟩
      have f2 : ¬ 2 ≤ o.f := f2
      repeat(first|refine Sc ?_|refine fun(_:Nat)=>?_)
      refine ⟨fun h => absurd h (show ¬ ((namesOf o.p).length : Int) = 0 by omega), fun _ => ?_⟩
      repeat(first|refine Sc ?_|refine fun(_:Nat)=>?_)
      refine ⟨fun _ => ?_, fun h => absurd hk h⟩
      repeat(first|refine Sc ?_|refine fun(_:Nat)=>?_)
      refine ⟨fun h => absurd h (by decide), fun r hr => ?_⟩
      obtain rfl : r = o.f % 2 := by rw [hr, Int.tmod_eq_emod_of_nonneg (by omega)]
      repeat(first|refine Sc ?_|refine fun(_:Nat)=>?_)
      refine ⟨fun hm => ?_, fun hm => ?_⟩
      · have hm : o.f % 2 = 1 := hm
        repeat(first|refine Sc ?_|refine fun(_:Nat)=>?_)
        refine ⟨fun hs => ?_, fun hs => ?_⟩
        · have hs : s = 0 := hs
          repeat(first|refine Sc ?_|refine fun(_:Nat)=>?_)
          exact ⟨_, [], FinOk.drop _ _, by rw [show staticF s o = 44 from by unfold staticF; rw [if_neg (show ¬ (o.k < 1 ∨ 7 < o.k) by omega), if_neg (show ¬ (o.k = 1 ∧ (o.f < 0 ∨ 3 < o.f)) by omega), if_neg (show ¬ parseE o.p ≠ 0 from fun e => e hp), if_neg (show ¬ (o.k = 1 ∧ 2 ≤ o.f ∧ longB o.p = true) from fun e => f2 e.2.1), if_neg (show ¬ (namesOf o.p = [] ∧ (o.k = 1 ∨ o.k = 3)) from fun e => hne e.1), if_pos ⟨hk, hm, hs⟩]]; rfl, rfl⟩
        have hs : ¬ s = 0 := hs
        repeat(first|refine Sc ?_|refine fun(_:Nat)=>?_)
        refine ⟨fun _ => ?_, fun h => absurd hk h⟩
        repeat(first|refine Sc ?_|refine fun(_:Nat)=>?_)
        refine ⟨fun hd => ?_, fun hd => ?_⟩
        · have hd : (64 : Int) < (o.d.size : Int) := hd
          repeat(first|refine Sc ?_|refine fun(_:Nat)=>?_)
          exact ⟨_, [], FinOk.drop _ _, by rw [show staticF s o = 45 from by unfold staticF; rw [if_neg (show ¬ (o.k < 1 ∨ 7 < o.k) by omega), if_neg (show ¬ (o.k = 1 ∧ (o.f < 0 ∨ 3 < o.f)) by omega), if_neg (show ¬ parseE o.p ≠ 0 from fun e => e hp), if_neg (show ¬ (o.k = 1 ∧ 2 ≤ o.f ∧ longB o.p = true) from fun e => f2 e.2.1), if_neg (show ¬ (namesOf o.p = [] ∧ (o.k = 1 ∨ o.k = 3)) from fun e => hne e.1), if_neg (show ¬ (o.k = 1 ∧ o.f % 2 = 1 ∧ s = 0) from fun e => hs e.2.2), if_pos (show (o.k = 1 ∨ o.k = 2) ∧ 64 < o.d.size from ⟨.inl hk, by omega⟩)]]; rfl, rfl⟩
        have hd : ¬ (64 : Int) < (o.d.size : Int) := hd
        repeat(first|refine Sc ?_|refine fun(_:Nat)=>?_)
        exact ⟨_, [], FinOk.drop _ _, by rw [show staticF s o = 0 from by unfold staticF; rw [if_neg (show ¬ (o.k < 1 ∨ 7 < o.k) by omega), if_neg (show ¬ (o.k = 1 ∧ (o.f < 0 ∨ 3 < o.f)) by omega), if_neg (show ¬ parseE o.p ≠ 0 from fun e => e hp), if_neg (show ¬ (o.k = 1 ∧ 2 ≤ o.f ∧ longB o.p = true) from fun e => f2 e.2.1), if_neg (show ¬ (namesOf o.p = [] ∧ (o.k = 1 ∨ o.k = 3)) from fun e => hne e.1), if_neg (show ¬ (o.k = 1 ∧ o.f % 2 = 1 ∧ s = 0) from fun e => hs e.2.2), if_neg (show ¬ ((o.k = 1 ∨ o.k = 2) ∧ 64 < o.d.size) from fun e => hd (by omega))]]; rfl, rfl⟩
      have hm : ¬ o.f % 2 = 1 := hm
      repeat(first|refine Sc ?_|refine fun(_:Nat)=>?_)
      refine ⟨fun _ => ?_, fun h => absurd hk h⟩
      repeat(first|refine Sc ?_|refine fun(_:Nat)=>?_)
      refine ⟨fun hd => ?_, fun hd => ?_⟩
      · have hd : (64 : Int) < (o.d.size : Int) := hd
        repeat(first|refine Sc ?_|refine fun(_:Nat)=>?_)
        exact ⟨_, [], FinOk.drop _ _, by rw [show staticF s o = 45 from by unfold staticF; rw [if_neg (show ¬ (o.k < 1 ∨ 7 < o.k) by omega), if_neg (show ¬ (o.k = 1 ∧ (o.f < 0 ∨ 3 < o.f)) by omega), if_neg (show ¬ parseE o.p ≠ 0 from fun e => e hp), if_neg (show ¬ (o.k = 1 ∧ 2 ≤ o.f ∧ longB o.p = true) from fun e => f2 e.2.1), if_neg (show ¬ (namesOf o.p = [] ∧ (o.k = 1 ∨ o.k = 3)) from fun e => hne e.1), if_neg (show ¬ (o.k = 1 ∧ o.f % 2 = 1 ∧ s = 0) from fun e => hm e.2.1), if_pos (show (o.k = 1 ∨ o.k = 2) ∧ 64 < o.d.size from ⟨.inl hk, by omega⟩)]]; rfl, rfl⟩
      have hd : ¬ (64 : Int) < (o.d.size : Int) := hd
      repeat(first|refine Sc ?_|refine fun(_:Nat)=>?_)
      exact ⟨_, [], FinOk.drop _ _, by rw [show staticF s o = 0 from by unfold staticF; rw [if_neg (show ¬ (o.k < 1 ∨ 7 < o.k) by omega), if_neg (show ¬ (o.k = 1 ∧ (o.f < 0 ∨ 3 < o.f)) by omega), if_neg (show ¬ parseE o.p ≠ 0 from fun e => e hp), if_neg (show ¬ (o.k = 1 ∧ 2 ≤ o.f ∧ longB o.p = true) from fun e => f2 e.2.1), if_neg (show ¬ (namesOf o.p = [] ∧ (o.k = 1 ∨ o.k = 3)) from fun e => hne e.1), if_neg (show ¬ (o.k = 1 ∧ o.f % 2 = 1 ∧ s = 0) from fun e => hm e.2.1), if_neg (show ¬ ((o.k = 1 ∨ o.k = 2) ∧ 64 < o.d.size) from fun e => hd (by omega))]]; rfl, rfl⟩
  repeat(first|refine Sc ?_|refine fun(_:Nat)=>?_)
  refine ⟨fun h => absurd h hk, fun _ => ?_⟩
  by_cases hsl : o.p = slash
  · have hp : parseE o.p = 0 := by rw [hsl]; exact parse_slash
    have hn : namesOf o.p = [] := by rw [hsl]; exact names_slash
    have hlb : longB o.p = false := by unfold longB; rw [hn]; rfl
    repeat(first|refine Sc ?_|refine fun(_:Nat)=>?_)
    refine ACallT.ok (ACall.ret (by rw [hsl]; exact refParse_slash) ?_)
    repeat(first|refine Sc ?_|refine fun(_:Nat)=>?_)
    refine ⟨fun e => absurd rfl e, fun _ => ?_⟩
    repeat(first|refine Sc ?_|refine fun(_:Nat)=>?_)
    refine ⟨fun h => absurd h hk, fun _ => ?_⟩
    repeat(first|refine Sc ?_|refine fun(_:Nat)=>?_)
    refine ⟨fun _ => ?_, fun h => absurd rfl h⟩
    repeat(first|refine Sc ?_|refine fun(_:Nat)=>?_)
    refine ⟨fun h => absurd h hk, fun _ => ?_⟩
    repeat(first|refine Sc ?_|refine fun(_:Nat)=>?_)
    refine ⟨fun k3 => ?_, fun k3 => ?_⟩
    · have k3 : o.k = 3 := k3
      repeat(first|refine Sc ?_|refine fun(_:Nat)=>?_)
      exact ⟨_, [], FinOk.drop _ _, by rw [show staticF s o = 47 from by unfold staticF; rw [if_neg (show ¬ (o.k < 1 ∨ 7 < o.k) by omega), if_neg (show ¬ (o.k = 1 ∧ (o.f < 0 ∨ 3 < o.f)) by omega), if_neg (show ¬ parseE o.p ≠ 0 from fun e => e hp), if_neg (show ¬ (o.k = 1 ∧ 2 ≤ o.f ∧ longB o.p = true) from fun e => hk e.1), if_pos ⟨hn, .inr k3⟩]]; rfl, rfl⟩
    have k3 : ¬ o.k = 3 := k3
    repeat(first|refine Sc ?_|refine fun(_:Nat)=>?_)
    refine ⟨fun h => absurd h hk, fun _ => ?_⟩
    repeat(first|refine Sc ?_|refine fun(_:Nat)=>?_)
    refine ⟨fun h => absurd h hk, fun _ => ?_⟩
    repeat(first|refine Sc ?_|refine fun(_:Nat)=>?_)
    refine ⟨fun k2 => ?_, fun k2 => ?_⟩
    · have k2 : o.k = 2 := k2
      repeat(first|refine Sc ?_|refine fun(_:Nat)=>?_)
      refine ⟨fun hd => ?_, fun hd => ?_⟩
      · have hd : (64 : Int) < (o.d.size : Int) := hd
        repeat(first|refine Sc ?_|refine fun(_:Nat)=>?_)
        exact ⟨_, [], FinOk.drop _ _, by rw [show staticF s o = 45 from by unfold staticF; rw [if_neg (show ¬ (o.k < 1 ∨ 7 < o.k) by omega), if_neg (show ¬ (o.k = 1 ∧ (o.f < 0 ∨ 3 < o.f)) by omega), if_neg (show ¬ parseE o.p ≠ 0 from fun e => e hp), if_neg (show ¬ (o.k = 1 ∧ 2 ≤ o.f ∧ longB o.p = true) from fun e => hk e.1), if_neg (show ¬ (namesOf o.p = [] ∧ (o.k = 1 ∨ o.k = 3)) by omega), if_neg (show ¬ (o.k = 1 ∧ o.f % 2 = 1 ∧ s = 0) from fun e => hk e.1), if_pos (show (o.k = 1 ∨ o.k = 2) ∧ 64 < o.d.size from ⟨.inr k2, by omega⟩)]]; rfl, rfl⟩
      have hd : ¬ (64 : Int) < (o.d.size : Int) := hd
      repeat(first|refine Sc ?_|refine fun(_:Nat)=>?_)
      exact ⟨_, [], FinOk.drop _ _, by rw [show staticF s o = 0 from by unfold staticF; rw [if_neg (show ¬ (o.k < 1 ∨ 7 < o.k) by omega), if_neg (show ¬ (o.k = 1 ∧ (o.f < 0 ∨ 3 < o.f)) by omega), if_neg (show ¬ parseE o.p ≠ 0 from fun e => e hp), if_neg (show ¬ (o.k = 1 ∧ 2 ≤ o.f ∧ longB o.p = true) from fun e => hk e.1), if_neg (show ¬ (namesOf o.p = [] ∧ (o.k = 1 ∨ o.k = 3)) by omega), if_neg (show ¬ (o.k = 1 ∧ o.f % 2 = 1 ∧ s = 0) from fun e => hk e.1), if_neg (show ¬ ((o.k = 1 ∨ o.k = 2) ∧ 64 < o.d.size) from fun e => hd (by omega))]]; rfl, rfl⟩
    have k2 : ¬ o.k = 2 := k2
    repeat(first|refine Sc ?_|refine fun(_:Nat)=>?_)
    exact ⟨_, [], FinOk.drop _ _, by rw [show staticF s o = 0 from by unfold staticF; rw [if_neg (show ¬ (o.k < 1 ∨ 7 < o.k) by omega), if_neg (show ¬ (o.k = 1 ∧ (o.f < 0 ∨ 3 < o.f)) by omega), if_neg (show ¬ parseE o.p ≠ 0 from fun e => e hp), if_neg (show ¬ (o.k = 1 ∧ 2 ≤ o.f ∧ longB o.p = true) from fun e => hk e.1), if_neg (show ¬ (namesOf o.p = [] ∧ (o.k = 1 ∨ o.k = 3)) by omega), if_neg (show ¬ (o.k = 1 ∧ o.f % 2 = 1 ∧ s = 0) from fun e => hk e.1), if_neg (show ¬ ((o.k = 1 ∨ o.k = 2) ∧ 64 < o.d.size) by omega)]]; rfl, rfl⟩
  repeat(first|refine Sc ?_|refine fun(_:Nat)=>?_)
  refine ACallT.ok (ACall.pure _ (refParse_spec o.p) ?_)
  rintro r L' (⟨hp, rfl, rfl⟩ | ⟨hp, hn, rfl, rfl⟩ | ⟨hp, hn6, g, Cp, rfl, rfl⟩)
  · refine ⟨_, Sub.refl _, ?_⟩
    repeat(first|refine Sc ?_|refine fun(_:Nat)=>?_)
    refine ⟨fun _ => ?_, fun e => absurd hp e⟩
    repeat(first|refine Sc ?_|refine fun(_:Nat)=>?_)
    exact ⟨_, [], FinOk.drop _ _, by rw [show staticF s o = 10 from by unfold staticF; rw [if_neg (show ¬ (o.k < 1 ∨ 7 < o.k) by omega), if_neg (show ¬ (o.k = 1 ∧ (o.f < 0 ∨ 3 < o.f)) by omega), if_pos hp]]; rfl, rfl⟩
  · exact absurd ((names_iff hp).1 hn) hsl
  · refine ⟨.tuple [.sl 1 g Cp (namesOf o.p).length, .int .i64 0], Sub.tuples ⟨Sub.sl _ _ _ _ _, Sub.refl _, trivial⟩, ?_⟩
    have hne : namesOf o.p ≠ [] := fun e => hsl ((names_iff hp).1 e)
    have hpos : 0 < (namesOf o.p).length := List.length_pos_iff.2 hne
    obtain ⟨nm, hnm⟩ : ∃ nm, (namesOf o.p).getLast? = some nm := ⟨_, List.getLast?_eq_some_getLast hne⟩
    have hlb : longB o.p = decide (11 < nm.size) := by unfold longB; rw [hnm]
    repeat(first|refine Sc ?_|refine fun(_:Nat)=>?_)
    refine ⟨fun e => absurd rfl e, fun _ => ?_⟩
    repeat(first|refine Sc ?_|refine fun(_:Nat)=>?_)
    refine ⟨fun h => absurd h hk, fun _ => ?_⟩
    repeat(first|refine Sc ?_|refine fun(_:Nat)=>?_)
    refine ⟨fun h => absurd h (show ¬ ((namesOf o.p).length : Int) = 0 by omega), fun _ => ?_⟩
    repeat(first|refine Sc ?_|refine fun(_:Nat)=>?_)
    refine ⟨fun h => absurd h hk, fun _ => ?_⟩
    repeat(first|refine Sc ?_|refine fun(_:Nat)=>?_)
    refine ⟨fun h => absurd h hk, fun _ => ?_⟩
    repeat(first|refine Sc ?_|refine fun(_:Nat)=>?_)
    refine ⟨fun k2 => ?_, fun k2 => ?_⟩
    · have k2 : o.k = 2 := k2
      repeat(first|refine Sc ?_|refine fun(_:Nat)=>?_)
      refine ⟨fun hd => ?_, fun hd => ?_⟩
      · have hd : (64 : Int) < (o.d.size : Int) := hd
        repeat(first|refine Sc ?_|refine fun(_:Nat)=>?_)
        exact ⟨_, [], FinOk.drop _ _, by rw [show staticF s o = 45 from by unfold staticF; rw [if_neg (show ¬ (o.k < 1 ∨ 7 < o.k) by omega), if_neg (show ¬ (o.k = 1 ∧ (o.f < 0 ∨ 3 < o.f)) by omega), if_neg (show ¬ parseE o.p ≠ 0 from fun e => e hp), if_neg (show ¬ (o.k = 1 ∧ 2 ≤ o.f ∧ longB o.p = true) from fun e => hk e.1), if_neg (show ¬ (namesOf o.p = [] ∧ (o.k = 1 ∨ o.k = 3)) from fun e => hne e.1), if_neg (show ¬ (o.k = 1 ∧ o.f % 2 = 1 ∧ s = 0) from fun e => hk e.1), if_pos (show (o.k = 1 ∨ o.k = 2) ∧ 64 < o.d.size from ⟨.inr k2, by omega⟩)]]; rfl, rfl⟩
      have hd : ¬ (64 : Int) < (o.d.size : Int) := hd
      repeat(first|refine Sc ?_|refine fun(_:Nat)=>?_)
      exact ⟨_, [], FinOk.drop _ _, by rw [show staticF s o = 0 from by unfold staticF; rw [if_neg (show ¬ (o.k < 1 ∨ 7 < o.k) by omega), if_neg (show ¬ (o.k = 1 ∧ (o.f < 0 ∨ 3 < o.f)) by omega), if_neg (show ¬ parseE o.p ≠ 0 from fun e => e hp), if_neg (show ¬ (o.k = 1 ∧ 2 ≤ o.f ∧ longB o.p = true) from fun e => hk e.1), if_neg (show ¬ (namesOf o.p = [] ∧ (o.k = 1 ∨ o.k = 3)) from fun e => hne e.1), if_neg (show ¬ (o.k = 1 ∧ o.f % 2 = 1 ∧ s = 0) from fun e => hk e.1), if_neg (show ¬ ((o.k = 1 ∨ o.k = 2) ∧ 64 < o.d.size) from fun e => hd (by omega))]]; rfl, rfl⟩
    have k2 : ¬ o.k = 2 := k2
    repeat(first|refine Sc ?_|refine fun(_:Nat)=>?_)
    exact ⟨_, [], FinOk.drop _ _, by rw [show staticF s o = 0 from by unfold staticF; rw [if_neg (show ¬ (o.k < 1 ∨ 7 < o.k) by omega), if_neg (show ¬ (o.k = 1 ∧ (o.f < 0 ∨ 3 < o.f)) by omega), if_neg (show ¬ parseE o.p ≠ 0 from fun e => e hp), if_neg (show ¬ (o.k = 1 ∧ 2 ≤ o.f ∧ longB o.p = true) from fun e => hk e.1), if_neg (show ¬ (namesOf o.p = [] ∧ (o.k = 1 ∨ o.k = 3)) from fun e => hne e.1), if_neg (show ¬ (o.k = 1 ∧ o.f % 2 = 1 ∧ s = 0) from fun e => hk e.1), if_neg (show ¬ ((o.k = 1 ∨ o.k = 2) ∧ 64 < o.d.size) by omega)]]; rfl, rfl⟩
end Go.Proofs.YtcbjcmigecocgaaGreatDoor.HBT
