/- All watches of a session are taken out. -/
import Derived.Test.YtgpbppkmmlclfaaDoorTtKr
import Derived.Test.YtgpbppkmmlclfaaDoorTtKd
set_option linter.unusedVariables false
set_option linter.unusedSimpArgs false
namespace Go.Proofs.YtgpbppkmmlclfaaDoor.HBT
open Go Go.Proofs.YtgpbppkmmlclfaaDoor.HB Go.RowKit
set_option maxRecDepth 8000

set_option maxHeartbeats 4000000 in
theorem forget_spec (ons : List On) (gt : Nat) (H : AHeap) (hT : IsTr ons gt H) (hn : ons.length ≤ 200) (s : Int) :
    FnSpec C 22 [.ptr 0 gt 0, .int .i64 s] [(0, boxL H)] (fun r L' => ∃ H', r = .int .i64 ((listO ons s).length : Nat) ∧ IsTr (forgO ons s) gt H' ∧ L' = [(0, boxL H')]) := by
  refine FnSpec.start C_ok Tryd.func22 rfl rfl Tryd.ntmps22 ?_
  repeat(first|refine Sc ?_|refine fun(_:Nat)=>?_)
  refine ACallT.ok (ACall.sel [0] (by decide) [.ptr 0 gt 0, .int .i64 s] _ ⟨Sub.refl _, Sub.refl _, trivial⟩ (ofR_spec ons gt H hT s) ?_)
  rintro r L' ⟨ws, hp, hs, h4, rfl, rfl⟩
  refine ⟨_, Sub.refl _, ?_⟩
  repeat(first|refine Sc ?_|refine fun(_:Nat)=>?_)
  refine Run.loopW (fun m env L => ∃ (i : Nat) (H : AHeap), m = ws.length - i ∧ i ≤ ws.length ∧ IsTr (partO ons s (ws.take i)) gt H ∧ env = [.ptr 0 gt 0, .int .i64 s, .junk, .junk, .int .i64 0, rdW ws, .junk, .junk, .junk, .junk, .junk, rdW ws, .int .i64 ws.length, .int .i64 i, .junk, .junk, .junk, .junk, .junk, .junk, .junk, .junk, .junk, .junk, .junk] ∧ L = [(0, boxL H)]) ws.length
    [.ptr 0 gt 0, .int .i64 s, .junk, .junk, .int .i64 0, rdW ws, .junk, .junk, .junk, .junk, .junk, rdW ws, .int .i64 ws.length, .int .i64 (0 : Nat), .junk, .junk, .junk, .junk, .junk, .junk, .junk, .junk, .junk, .junk, .junk] [(0, boxL H)] (Weak.sel ?_ [0] (by decide) ?_) ⟨0, H, by omega, by omega, by rw [List.take_zero]; exact hT, rfl, rfl⟩ ?_
  · exact Ss
  · exact Sl
  clear hT H
  rintro m env L ⟨i, H, rfl, hi, hT, rfl, rfl⟩
  repeat(first|refine Sc ?_|refine fun(_:Nat)=>?_)
  refine ⟨fun h => ?_, fun h => ?_⟩
  · have h : (i : Int) < (ws.length : Int) := h
    obtain ⟨w, ew⟩ : ∃ w, ws[i]? = some w := ⟨_, List.getElem?_eq_getElem (by omega)⟩
    have hmore : ws.take (i + 1) = ws.take i ++ [w] := by rw [List.take_add_one, ew]; rfl
    have hlen := partO_len ons s (ws.take i)
    repeat(first|refine Sc ?_|refine fun(_:Nat)=>?_)
    refine ⟨h, encW w, map_at encW ew, ?_⟩
    repeat(first|refine Sc ?_|refine fun(_:Nat)=>?_)
    refine ACallT.ok (ACall.sel [0] (by decide) [.ptr 0 gt 0, .int .i64 s, .int .i64 w.id] _ ⟨Sub.refl _, Sub.refl _, Sub.refl _, trivial⟩ (dropT_spec _ gt H hT (by omega) s w.id) ?_)
    rintro r L' ⟨H', rfl, hT', rfl⟩
    refine ⟨_, Sub.refl _, ?_⟩
    repeat(first|refine Sc ?_|refine fun(_:Nat)=>?_)
    refine fun r hr => ?_
    obtain rfl := add1 hr (by omega)
    repeat(first|refine Sc ?_|refine fun(_:Nat)=>?_)
    refine Cont.lpW ?_
    refine ⟨ws.length - (i + 1), _, _, by omega, Weak.sel ?_ [0] (by decide) ?_, ⟨i + 1, H', rfl, by omega, by rw [hmore, partO_snoc]; exact hT', rfl, rfl⟩⟩
    · exact Ss
    · exact Sl
  · have h : ¬ (i : Int) < (ws.length : Int) := h
    obtain rfl : i = ws.length := by omega
    rw [List.take_length, partO_all hp] at hT
    repeat(first|refine Sc ?_|refine fun(_:Nat)=>?_)
    exact ⟨_, _, FinOk.keep _ [0] (Sub.refl _) (by decide) rfl, H, congrArg (fun n : Nat => AV.int .i64 (n : Int)) hp.length_eq, hT, rfl⟩
end Go.Proofs.YtgpbppkmmlclfaaDoor.HBT
