/- A list turned round; two tries that hold the same watches answer alike. -/
import Derived.Test.YtgpbppkmmlclfaaDoorTtKv
set_option linter.unusedVariables false
set_option linter.unusedSimpArgs false
namespace Go.Proofs.YtgpbppkmmlclfaaDoor.HBT
open Go Go.Proofs.YtgpbppkmmlclfaaDoor.HB Go.RowKit
set_option maxRecDepth 8000

set_option maxHeartbeats 4000000 in
theorem turn_spec (l : List On) (hl : l.length ≤ 1000) (kn : Nat) (hk : kn ≤ 1000) : FnSpec C 18 [rdS l l.length, .int .i64 kn] [] (fun r L' => ∃ gl lo, LN encH tSe 5 0 (turnO l kn 0) r gl lo ∧ L' = [(gl, lo)]) := by
  refine FnSpec.start C_ok Tryd.func18 rfl rfl Tryd.ntmps18 ?_
  repeat(first|refine Sc ?_|refine fun(_:Nat)=>?_)
  refine fun r hr => ?_
  obtain rfl : r = (l.length : Int) - 1 := by rw [hr, IntKind.wrap_i64]; omega
  repeat(first|refine Sc ?_|refine fun(_:Nat)=>?_)
  refine Run.loopW (fun m env L => ∃ (j : Nat) (v : AV) (gl : Nat) (lo : AObj), m = j ∧ j ≤ l.length ∧ LN encH tSe 5 0 (turnO l kn j) v gl lo ∧ env = [rdS l l.length, .int .i64 kn, .junk, .junk, .junk, v, .int .i64 ((j : Int) - 1), .junk, .junk, .junk, .junk, .junk, .junk, .junk, .junk, .junk, .junk, .junk, .junk, .junk, .junk, .junk, .junk, .junk, .junk, .junk, .junk] ∧ L = [(gl, lo)]) l.length
    [rdS l l.length, .int .i64 kn, .junk, .junk, .junk, .nils, .int .i64 ((l.length : Int) - 1), .junk, .junk, .junk, .junk, .junk, .junk, .junk, .junk, .junk, .junk, .junk, .junk, .junk, .junk, .junk, .junk, .junk, .junk, .junk, .junk] [(0, .dead)] (Weak.sel ?_ [99] (by decide) ?_) ⟨l.length, .nils, 0, .dead, rfl, by omega, .inl ⟨turnO_start l kn, rfl, rfl⟩, rfl, rfl⟩ ?_
  · exact Ss
  · exact Sl
  rintro m env L ⟨j, v, gl, lo, rfl, hj, hv, rfl, rfl⟩
  repeat(first|refine Sc ?_|refine fun(_:Nat)=>?_)
  refine ⟨fun h => ?_, fun h => ?_⟩
  · have h : (0 : Int) ≤ (m : Int) - 1 := h
    obtain ⟨q, rfl⟩ : ∃ q, m = q + 1 := ⟨m - 1, by omega⟩
    have e1 : ((q + 1 : Nat) : Int) - 1 = (q : Int) := by omega
    rw [e1]
    have hlp : 0 < l.length := by omega
    have hmod : (q + kn) % l.length < l.length := Nat.mod_lt _ hlp
    obtain ⟨o, eo⟩ : ∃ o, l[(q + kn) % l.length]? = some o := ⟨_, List.getElem?_eq_getElem hmod⟩
    have hstep := turnO_step l kn q (by omega) eo
    have htl : (turnO l kn (q + 1)).length ≤ 1000 := by
      unfold turnO
      refine Nat.le_trans (List.length_filterMap_le _ _) ?_
      rw [List.length_reverse, List.length_range']; omega
    repeat(first|refine Sc ?_|refine fun(_:Nat)=>?_)
    refine fun r hr => ?_
    obtain rfl : r = ((q + kn : Nat) : Int) := by rw [hr, IntKind.wrap_i64]; omega
    repeat(first|refine Sc ?_|refine fun(_:Nat)=>?_)
    refine ⟨by omega, ?_⟩
    repeat(first|refine Sc ?_|refine fun(_:Nat)=>?_)
    refine fun r hr => ?_
    obtain rfl : r = (((q + kn) % l.length : Nat) : Int) := by rw [hr]; exact (Int.ofNat_tmod _ _).symm
    repeat(first|refine Sc ?_|refine fun(_:Nat)=>?_)
    refine ⟨by omega, encH o, map_at encH eo, ?_⟩
    repeat(first|refine Sc ?_|refine fun(_:Nat)=>?_)
    rcases hv with ⟨e0, rfl, rfl⟩ | ⟨Cp, rfl, rfl⟩
    · repeat(first|refine Sc ?_|refine fun(_:Nat)=>?_)
      refine ⟨fun h => absurd h (List.cons_ne_nil _ _), fun _ => ?_⟩
      repeat(first|refine Sc ?_|refine fun(_:Nat)=>?_)
      rename_i g' Cp'
      repeat(first|refine Sc ?_|refine fun(_:Nat)=>?_)
      refine fun r hr => ?_
      obtain rfl : r = (q : Int) - 1 := by rw [hr, IntKind.wrap_i64]; omega
      repeat(first|refine Sc ?_|refine fun(_:Nat)=>?_)
      refine Cont.lpW ?_
      refine ⟨q, _, _, by omega, Weak.sel ?_ [2] (by decide) ?_, ⟨q, .sl 0 g' Cp' 1, g', _, rfl, by omega, by rw [hstep]; exact LN1 _ e0, rfl, rfl⟩⟩
      · exact Ss
      · exact Sl
    · repeat(first|refine Sc ?_|refine fun(_:Nat)=>?_)
      refine ⟨by simp, ?_⟩
      repeat(first|refine Sc ?_|refine fun(_:Nat)=>?_)
      refine ⟨by show (_ + 1) * _ ≤ _; rw [List.length_map]; omega, ?_⟩
      repeat(first|refine Sc ?_|refine fun(_:Nat)=>?_)
      rename_i g' Cp'
      repeat(first|refine Sc ?_|refine fun(_:Nat)=>?_)
      refine fun r hr => ?_
      obtain rfl : r = (q : Int) - 1 := by rw [hr, IntKind.wrap_i64]; omega
      repeat(first|refine Sc ?_|refine fun(_:Nat)=>?_)
      refine Cont.lpW ?_
      refine ⟨q, _, _, by omega, Weak.sel ?_ [0] (by decide) ?_, ⟨q, .sl 0 g' Cp' (((turnO l kn (q + 1)).map encH).length + 1), g', _, rfl, by omega, by rw [hstep]; exact LN2 _, rfl, rfl⟩⟩
      · exact Ss
      · exact Sl
  · have h : ¬ (0 : Int) ≤ (m : Int) - 1 := h
    obtain rfl : m = 0 := by omega
    repeat(first|refine Sc ?_|refine fun(_:Nat)=>?_)
    exact ⟨v, _, FinOk.keep _ [0] (Sub.refl _) (by decide) rfl, gl, lo, hv, rfl⟩
end Go.Proofs.YtgpbppkmmlclfaaDoor.HBT
