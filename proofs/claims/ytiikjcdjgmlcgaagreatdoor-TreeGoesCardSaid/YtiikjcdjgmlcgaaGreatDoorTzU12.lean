/- The laws' scripts: only. -/
import Derived.Test.YtiikjcdjgmlcgaaGreatDoorTzU11
set_option linter.unusedVariables false
set_option linter.unusedSimpArgs false
namespace Go.Proofs.YtiikjcdjgmlcgaaGreatDoor.HBT
open Go Go.Proofs.YtiikjcdjgmlcgaaGreatDoor.HB Go.RowKit
set_option maxRecDepth 8000

set_option maxHeartbeats 4000000 in
theorem only_spec (xs : List Stp) (n : Nat) (hn : n ≤ xs.length) (hok : ∀ x ∈ xs, x.fit) (kd : Int) : FnSpec C 35 [rdS xs n, .int .i64 kd] [] (fun r L' => r = .bool true ∧ L' = []) := by
  refine FnSpec.start C_ok Tryz.func35 rfl rfl Tryz.ntmps35 ?_
  repeat(first|refine Sc ?_|refine fun(_:Nat)=>?_)
  refine ACallT.ok (ACall.pure _ new_spec ?_)
  rintro r L' ⟨gt, gm, es, cl, hT, rfl, rfl⟩
  refine ⟨_, Sub.refl _, ?_⟩
  repeat(first|refine Sc ?_|refine fun(_:Nat)=>?_)
  refine ACallT.ok (ACall.ret refNew_spec ?_)
  repeat(first|refine Sc ?_|refine fun(_:Nat)=>?_)
  rename_i g6 gd
  refine Run.loopW (fun k env L => ∃ (i : Nat) (gt gm : Nat) (l : List Fu) (es : Array MapEntry) (cl : Nat) (v : AV) (g : Nat) (o : AObj) (ys : List Opp), k = 121 - i ∧ i ≤ 120 ∧ TM l es cl ∧ TInv l ∧ LO 4 ys v g o ∧ env = [rdS xs n, .int .i64 kd, .junk, .junk, .junk, .ptr 0 gt 0, .ptr 2 g6 0, .ptr 3 gd 0, .int .i64 i, .junk, .junk, .junk, .junk, .junk, .junk, .junk, .junk, .junk, .junk, .junk, .junk, .junk, .junk, .junk, .junk, .junk, .junk, .junk, .junk, .junk, .junk, .junk, .junk, .junk, .junk, .junk, .junk, .junk, .junk, .junk, .junk, .junk, .junk, .junk, .junk, .junk, .junk, .junk, .junk, .junk, .junk, .junk, .junk, .junk, .junk, .junk, .junk, .junk] ∧ L = [(gt, .cells tT [.any (.map (some gm))]), (gm, .obj (.map es cl)), (g6, .cells tV [rdX l]), (gd, .cells tD [v]), (g, o)]) 121
    [rdS xs n, .int .i64 kd, .junk, .junk, .junk, .ptr 0 gt 0, .ptr 2 g6 0, .ptr 3 gd 0, .int .i64 (0 : Nat), .junk, .junk, .junk, .junk, .junk, .junk, .junk, .junk, .junk, .junk, .junk, .junk, .junk, .junk, .junk, .junk, .junk, .junk, .junk, .junk, .junk, .junk, .junk, .junk, .junk, .junk, .junk, .junk, .junk, .junk, .junk, .junk, .junk, .junk, .junk, .junk, .junk, .junk, .junk, .junk, .junk, .junk, .junk, .junk, .junk, .junk, .junk, .junk, .junk] [(gt, .cells tT [.any (.map (some gm))]), (gm, .obj (.map es cl)), (g6, .cells tV [rdX [rootF]]), (gd, .cells tD [.nils]), (0, .dead)] (Weak.sel ?_ [0, 1, 2, 3, 9] (by decide) ?_) ⟨0, gt, gm, [rootF], es, cl, .nils, 0, .dead, [], by omega, by omega, hT, TInv.new, .inl ⟨rfl, rfl, rfl⟩, rfl, rfl⟩ ?_
  · exact Ss
  · exact Sl
  rintro k env L ⟨i, gt, gm, l, es, cl, v, g, o, ys, rfl, hi, hT, hI, hv, rfl, rfl⟩
  repeat(first|refine Sc ?_|refine fun(_:Nat)=>?_)
  refine ⟨fun h => ?_, fun h => ?_⟩
  rotate_left
  · repeat(first|refine Sc ?_|refine fun(_:Nat)=>?_)
    refine ACallT.ok (ACall.ret known_spec ?_)
    repeat(first|refine Sc ?_|refine fun(_:Nat)=>?_)
    exact ⟨_, [], FinOk.drop _ _, rfl, rfl⟩
  have h : (i : Int) < (n : Int) := h
  repeat(first|refine Sc ?_|refine fun(_:Nat)=>?_)
  refine ⟨fun h2 => ?_, fun h2 => ?_⟩
  rotate_left
  · repeat(first|refine Sc ?_|refine fun(_:Nat)=>?_)
    refine ACallT.ok (ACall.ret known_spec ?_)
    repeat(first|refine Sc ?_|refine fun(_:Nat)=>?_)
    exact ⟨_, [], FinOk.drop _ _, rfl, rfl⟩
  have h2 : (i : Int) < 120 := h2
  obtain ⟨x, ex⟩ : ∃ x, xs[i]? = some x := ⟨_, List.getElem?_eq_getElem (by omega)⟩
  have hx := hok x (List.mem_of_getElem? ex)
  obtain ⟨v2, hs2, hv2⟩ := hv.move 3
  repeat(first|refine Sc ?_|refine fun(_:Nat)=>?_)
  refine Run.join C_ok (fun env L => ∃ (gt2 gm2 : Nat) (l2 : List Fu) (es2 : Array MapEntry) (cl2 : Nat) (v4 : AV) (g3 : Nat) (o3 : AObj) (ys3 : List Opp) (g10 : Nat), TM l2 es2 cl2 ∧ TInv l2 ∧ LO 4 ys3 v4 g3 o3 ∧ env = [rdS xs n, .int .i64 kd, .junk, .junk, .junk, .junk, .ptr 2 g6 0, .ptr 3 gd 0, .int .i64 i, .ptr 0 gt2 0, .ptr 5 g10 0, .bool true, .junk, .junk, .junk, .junk, .junk, .junk, .junk, .junk, .junk, .junk, .junk, .junk, .junk, .junk, .junk, .junk, .junk, .junk, .junk, .junk, .junk, .junk, .junk, .junk, .junk, .junk, .junk, .junk, .junk, .junk, .junk, .junk, .junk, .junk, .junk, .junk, .junk, .junk, .junk, .junk, .junk, .junk, .junk, .junk, .junk, .junk] ∧ L = [(gt2, .cells tT [.any (.map (some gm2))]), (gm2, .obj (.map es2 cl2)), (g6, .cells tV [rdX l]), (gd, .cells tD [v4]), (g3, o3), (g10, .cells tV [rdX l2])]) ?_ ?_
  · refine Run.drawnN C_ok (aopC_sound C_ok) [2] (.pre [0, 1, 2, 3, 4, 5, 6] (.two 7 (.ofL [8, 9, 10, 11, 12, 13, 14, 15]) 12 (.ofL [7, 8, 9, 10, 11, 13, 14, 15]))) (by kernel_rfl) ?_
    repeat(first|refine Sc ?_|refine fun(_:Nat)=>?_)
    refine ⟨h, encS x, map_at encS ex, ?_⟩
    repeat(first|refine Sc ?_|refine fun(_:Nat)=>?_)
    refine OrdN.two ?_ ?_
    · repeat(first|refine Sc ?_|refine fun(_:Nat)=>?_)
      refine ACallT.ok (ACall.selS [0, 1, 3, 4] (by decide) [.ptr 0 gt 0, .agg [rdX l], encS x, .ptr 2 gd 0] (TreeL gt gm es cl ++ DeskL gd v2 g o) _ ⟨Sub.ptr _ _ _ _, Sub.refl _, Sub.refl _, Sub.ptr _ _ _ _, trivial⟩ ⟨rfl, SubO.refl _, rfl, SubO.refl _, rfl, SubO.cells ⟨hs2, trivial⟩, rfl, SubO.refl _, trivial⟩ (plays_spec gt gm hT hI x hx gd v2 g o ys hv2) ?_)
      rintro r L' ⟨gt2, gm2, l2, es2, cl2, v3, g3, o3, ys3, hT2, hI2, hv3, rfl, rfl⟩
      obtain ⟨v4, hs4, hv4⟩ := hv3.move 4
      refine ⟨.tuple [.ptr 0 gt2 0, .agg [rdX l2], .bool true], [(gt2, .cells tT [.any (.map (some gm2))]), (gm2, .obj (.map es2 cl2)), (_, .dead), (gd, .cells tD [v4]), (g3, o3)], Sub.tuples ⟨Sub.ptr _ _ _ _, Sub.refl _, Sub.refl _, trivial⟩, ⟨rfl, SubO.refl _, rfl, SubO.refl _, rfl, SubO.refl _, rfl, SubO.cells ⟨hs4, trivial⟩, rfl, SubO.refl _, trivial⟩, ?_⟩
      repeat(first|refine Sc ?_|refine fun(_:Nat)=>?_)
      rename_i g10
      refine ⟨_, _, Weak.sel ?_ [0, 1, 2, 3, 4, 5] (by decide) ?_, gt2, gm2, l2, es2, cl2, v4, g3, o3, ys3, g10, hT2, hI2, hv4, rfl, rfl⟩
      · exact Ss
      · exact Sl
    · repeat(first|refine Sc ?_|refine fun(_:Nat)=>?_)
      rename_i g10
      refine ACallT.ok (ACall.selS [0, 1, 3, 4] (by decide) [.ptr 0 gt 0, .agg [rdX l], encS x, .ptr 2 gd 0] (TreeL gt gm es cl ++ DeskL gd v2 g o) _ ⟨Sub.ptr _ _ _ _, Sub.refl _, Sub.refl _, Sub.ptr _ _ _ _, trivial⟩ ⟨rfl, SubO.refl _, rfl, SubO.refl _, rfl, SubO.cells ⟨hs2, trivial⟩, rfl, SubO.refl _, trivial⟩ (plays_spec gt gm hT hI x hx gd v2 g o ys hv2) ?_)
      rintro r L' ⟨gt2, gm2, l2, es2, cl2, v3, g3, o3, ys3, hT2, hI2, hv3, rfl, rfl⟩
      obtain ⟨v4, hs4, hv4⟩ := hv3.move 4
      refine ⟨.tuple [.ptr 0 gt2 0, .agg [rdX l2], .bool true], [(gt2, .cells tT [.any (.map (some gm2))]), (gm2, .obj (.map es2 cl2)), (_, .dead), (gd, .cells tD [v4]), (g3, o3), (g10, .cells tV [.nils])], Sub.tuples ⟨Sub.ptr _ _ _ _, Sub.refl _, Sub.refl _, trivial⟩, ⟨rfl, SubO.refl _, rfl, SubO.refl _, rfl, SubO.refl _, rfl, SubO.cells ⟨hs4, trivial⟩, rfl, SubO.refl _, rfl, SubO.refl _, trivial⟩, ?_⟩
      repeat(first|refine Sc ?_|refine fun(_:Nat)=>?_)
      refine ⟨_, _, Weak.sel ?_ [0, 1, 2, 3, 4, 5] (by decide) ?_, gt2, gm2, l2, es2, cl2, v4, g3, o3, ys3, g10, hT2, hI2, hv4, rfl, rfl⟩
      · exact Ss
      · exact Sl
  rintro env L ⟨gt2, gm2, l2, es2, cl2, v4, g3, o3, ys3, g10, hT2, hI2, hv4, rfl, rfl⟩
  repeat(first|refine Sc ?_|refine fun(_:Nat)=>?_)
  refine fun r hr => ?_
  obtain rfl := add1 hr (by omega)
  repeat(first|refine Sc ?_|refine fun(_:Nat)=>?_)
  refine Cont.lpW ?_
  refine ⟨121 - (i + 1), _, _, by omega, Weak.sel ?_ [0, 1, 2, 3, 4] (by decide) ?_, ⟨i + 1, gt2, gm2, l2, es2, cl2, v4, g3, o3, ys3, rfl, by omega, hT2, hI2, hv4, rfl, rfl⟩⟩
  · exact Ss
  · exact Sl
end Go.Proofs.YtiikjcdjgmlcgaaGreatDoor.HBT
