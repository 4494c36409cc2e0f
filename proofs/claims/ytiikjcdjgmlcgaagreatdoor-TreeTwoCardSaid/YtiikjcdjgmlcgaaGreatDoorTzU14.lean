/- The law TreeTwo, walked. -/
import Derived.Test.YtiikjcdjgmlcgaaGreatDoorTzU11
set_option linter.unusedVariables false
set_option linter.unusedSimpArgs false
namespace Go.Proofs.YtiikjcdjgmlcgaaGreatDoor.HBT
open Go Go.Proofs.YtiikjcdjgmlcgaaGreatDoor.HB Go.RowKit
set_option maxRecDepth 8000

set_option maxHeartbeats 4000000 in
theorem lawTwo_spec (xs : List Stp) (n : Nat) (hn : n ≤ xs.length) (hok : ∀ x ∈ xs, x.fit) : FnSpec C 13 [rdS xs n] [] (fun r L' => r = .bool true ∧ L' = []) := by
  refine FnSpec.start C_ok Tryz.func13 rfl rfl Tryz.ntmps13 ?_
  repeat(first|refine Sc ?_|refine fun(_:Nat)=>?_)
  refine ACallT.ok (ACall.pure _ new_spec ?_)
  rintro r L' ⟨ga, gma, esa, cla, hTa, rfl, rfl⟩
  refine ⟨_, Sub.refl _, ?_⟩
  repeat(first|refine Sc ?_|refine fun(_:Nat)=>?_)
  refine ACallT.ok (ACall.pure _ new_spec ?_)
  rintro r L' ⟨gb, gmb, esb, clb, hTb, rfl, rfl⟩
  refine ⟨.ptr 2 gb 0, Sub.ptr _ _ _ _, ?_⟩
  repeat(first|refine Sc ?_|refine fun(_:Nat)=>?_)
  refine ACallT.ok (ACall.ret refNew_spec ?_)
  repeat(first|refine Sc ?_|refine fun(_:Nat)=>?_)
  refine ACallT.ok (ACall.ret refNew_spec ?_)
  repeat(first|refine Sc ?_|refine fun(_:Nat)=>?_)
  rename_i g5 g6 gd
  refine Run.loopW (fun k env L => ∃ (i : Nat) (ga gma : Nat) (la : List Fu) (esa : Array MapEntry) (cla : Nat) (gb gmb : Nat) (lb : List Fu) (esb : Array MapEntry) (clb : Nat) (v : AV) (g : Nat) (o : AObj) (ys : List Opp), k = 121 - i ∧ i ≤ 120 ∧ TM la esa cla ∧ TInv la ∧ TM lb esb clb ∧ TInv lb ∧ LO 7 ys v g o ∧ env = [rdS xs n, .junk, .junk, .ptr 0 ga 0, .ptr 2 gb 0, .ptr 4 g5 0, .ptr 5 g6 0, .ptr 6 gd 0, .int .i64 i, .junk, .junk, .junk, .junk, .junk, .junk, .junk, .junk, .junk, .junk, .junk, .junk, .junk, .junk, .junk, .junk, .junk, .junk, .junk, .junk, .junk, .junk, .junk, .junk, .junk, .junk, .junk, .junk, .junk, .junk, .junk, .junk, .junk, .junk, .junk, .junk, .junk, .junk, .junk, .junk, .junk, .junk, .junk, .junk, .junk, .junk, .junk, .junk, .junk, .junk, .junk, .junk, .junk, .junk, .junk, .junk, .junk, .junk, .junk, .junk, .junk, .junk, .junk, .junk, .junk, .junk, .junk, .junk, .junk, .junk, .junk, .junk, .junk, .junk, .junk, .junk, .junk, .junk] ∧ L = [(ga, .cells tT [.any (.map (some gma))]), (gma, .obj (.map esa cla)), (gb, .cells tT [.any (.map (some gmb))]), (gmb, .obj (.map esb clb)), (g5, .cells tV [rdX la]), (g6, .cells tV [rdX lb]), (gd, .cells tD [v]), (g, o)]) 121
    [rdS xs n, .junk, .junk, .ptr 0 ga 0, .ptr 2 gb 0, .ptr 4 g5 0, .ptr 5 g6 0, .ptr 6 gd 0, .int .i64 (0 : Nat), .junk, .junk, .junk, .junk, .junk, .junk, .junk, .junk, .junk, .junk, .junk, .junk, .junk, .junk, .junk, .junk, .junk, .junk, .junk, .junk, .junk, .junk, .junk, .junk, .junk, .junk, .junk, .junk, .junk, .junk, .junk, .junk, .junk, .junk, .junk, .junk, .junk, .junk, .junk, .junk, .junk, .junk, .junk, .junk, .junk, .junk, .junk, .junk, .junk, .junk, .junk, .junk, .junk, .junk, .junk, .junk, .junk, .junk, .junk, .junk, .junk, .junk, .junk, .junk, .junk, .junk, .junk, .junk, .junk, .junk, .junk, .junk, .junk, .junk, .junk, .junk, .junk, .junk] [(ga, .cells tT [.any (.map (some gma))]), (gma, .obj (.map esa cla)), (gb, .cells tT [.any (.map (some gmb))]), (gmb, .obj (.map esb clb)), (g5, .cells tV [rdX [rootF]]), (g6, .cells tV [rdX [rootF]]), (gd, .cells tD [.nils]), (0, .dead)] (Weak.sel ?_ [0, 1, 2, 3, 4, 5, 6, 19] (by decide) ?_) ⟨0, ga, gma, [rootF], esa, cla, gb, gmb, [rootF], esb, clb, .nils, 0, .dead, [], by omega, by omega, hTa, TInv.new, hTb, TInv.new, .inl ⟨rfl, rfl, rfl⟩, rfl, rfl⟩ ?_
  · exact Ss
  · exact Sl
  rintro k env L ⟨i, ga, gma, la, esa, cla, gb, gmb, lb, esb, clb, v, g, o, ys, rfl, hi, hTa, hIa, hTb, hIb, hv, rfl, rfl⟩
  have hla := hIa.len
  have hlb := hIb.len
  repeat(first|refine Sc ?_|refine fun(_:Nat)=>?_)
  refine ⟨fun h => ?_, fun h => ?_⟩
  rotate_left
  · repeat(first|refine Sc ?_|refine fun(_:Nat)=>?_)
    refine ACallT.ok (ACall.sel [0, 1] (by decide) [.ptr 0 ga 0] _ (.one (Sub.ptr _ _ _ _)) (nodes_spec ga gma hTa hIa) ?_)
    rintro r L' ⟨gna, Cna, rfl, rfl⟩
    refine ⟨.sl 8 gna Cna la.length, Sub.sl _ _ _ _ _, ?_⟩
    repeat(first|refine Sc ?_|refine fun(_:Nat)=>?_)
    refine ACallT.ok (ACall.sel [2, 3] (by decide) [.ptr 0 gb 0] _ (.one (Sub.ptr _ _ _ _)) (nodes_spec gb gmb hTb hIb) ?_)
    rintro r L' ⟨gnb, Cnb, rfl, rfl⟩
    refine ⟨.sl 9 gnb Cnb lb.length, Sub.sl _ _ _ _ _, ?_⟩
    repeat(first|refine Sc ?_|refine fun(_:Nat)=>?_)
    refine ACallT.ok (ACall.ret (refNodes_spec la (by omega)) ?_)
    repeat(first|refine Sc ?_|refine fun(_:Nat)=>?_)
    refine ACallT.ok (ACall.ret_lend (.two (.row 8 gna Cna _ tX 7 _ rfl (by simp)) (.same _)) (fulls_same la (by omega)) rfl ?_)
    repeat(first|refine Sc ?_|refine fun(_:Nat)=>?_)
    refine ACallT.ok (ACall.ret (refNodes_spec lb (by omega)) ?_)
    repeat(first|refine Sc ?_|refine fun(_:Nat)=>?_)
    refine ACallT.ok (ACall.ret_lend (.two (.row 9 gnb Cnb _ tX 7 _ rfl (by simp)) (.same _)) (fulls_same lb (by omega)) rfl ?_)
    repeat(first|refine Sc ?_|refine fun(_:Nat)=>?_)
    refine ACallT.ok (ACall.ret known_spec ?_)
    repeat(first|refine Sc ?_|refine fun(_:Nat)=>?_)
    exact ⟨_, [], FinOk.drop _ _, rfl, rfl⟩
  have h : (i : Int) < (n : Int) := h
  repeat(first|refine Sc ?_|refine fun(_:Nat)=>?_)
  refine ⟨fun h2 => ?_, fun h2 => ?_⟩
  rotate_left
  · repeat(first|refine Sc ?_|refine fun(_:Nat)=>?_)
    refine ACallT.ok (ACall.sel [0, 1] (by decide) [.ptr 0 ga 0] _ (.one (Sub.ptr _ _ _ _)) (nodes_spec ga gma hTa hIa) ?_)
    rintro r L' ⟨gna, Cna, rfl, rfl⟩
    refine ⟨.sl 8 gna Cna la.length, Sub.sl _ _ _ _ _, ?_⟩
    repeat(first|refine Sc ?_|refine fun(_:Nat)=>?_)
    refine ACallT.ok (ACall.sel [2, 3] (by decide) [.ptr 0 gb 0] _ (.one (Sub.ptr _ _ _ _)) (nodes_spec gb gmb hTb hIb) ?_)
    rintro r L' ⟨gnb, Cnb, rfl, rfl⟩
    refine ⟨.sl 9 gnb Cnb lb.length, Sub.sl _ _ _ _ _, ?_⟩
    repeat(first|refine Sc ?_|refine fun(_:Nat)=>?_)
    refine ACallT.ok (ACall.ret (refNodes_spec la (by omega)) ?_)
    repeat(first|refine Sc ?_|refine fun(_:Nat)=>?_)
    refine ACallT.ok (ACall.ret_lend (.two (.row 8 gna Cna _ tX 7 _ rfl (by simp)) (.same _)) (fulls_same la (by omega)) rfl ?_)
    repeat(first|refine Sc ?_|refine fun(_:Nat)=>?_)
    refine ACallT.ok (ACall.ret (refNodes_spec lb (by omega)) ?_)
    repeat(first|refine Sc ?_|refine fun(_:Nat)=>?_)
    refine ACallT.ok (ACall.ret_lend (.two (.row 9 gnb Cnb _ tX 7 _ rfl (by simp)) (.same _)) (fulls_same lb (by omega)) rfl ?_)
    repeat(first|refine Sc ?_|refine fun(_:Nat)=>?_)
    refine ACallT.ok (ACall.ret known_spec ?_)
    repeat(first|refine Sc ?_|refine fun(_:Nat)=>?_)
    exact ⟨_, [], FinOk.drop _ _, rfl, rfl⟩
  have h2 : (i : Int) < 120 := h2
  obtain ⟨x, ex⟩ : ∃ x, xs[i]? = some x := ⟨_, List.getElem?_eq_getElem (by omega)⟩
  have hx := hok x (List.mem_of_getElem? ex)
  have hx : x.fit := hx
  obtain ⟨v2, hs2, hv2⟩ := hv.move 3
  repeat(first|refine Sc ?_|refine fun(_:Nat)=>?_)
  refine ⟨h, encS x, map_at encS ex, ?_⟩
  repeat(first|refine Sc ?_|refine fun(_:Nat)=>?_)
  rename_i g9
  refine ⟨by decide, ?_⟩
  repeat(first|refine Sc ?_|refine fun(_:Nat)=>?_)
  refine fun q hq => ?_
  repeat(first|refine Sc ?_|refine fun(_:Nat)=>?_)
  refine ⟨h, encS x, map_at encS ex, ?_⟩
  repeat(first|refine Sc ?_|refine fun(_:Nat)=>?_)
  refine ⟨by decide, ?_⟩
  repeat(first|refine Sc ?_|refine fun(_:Nat)=>?_)
  refine fun r hr => ?_
  clear hr
  repeat(first|refine Sc ?_|refine fun(_:Nat)=>?_)
  refine ⟨fun hq2 => ?_, fun hq2 => ?_⟩
  · repeat(first|refine Sc ?_|refine fun(_:Nat)=>?_)
    refine ACallT.ok (ACall.selS [0, 1, 6, 7] (by decide) [.ptr 0 ga 0, .agg [rdX la], encS { x with n := q }, .ptr 2 gd 0] (TreeL ga gma esa cla ++ DeskL gd v2 g o) _ ⟨Sub.ptr _ _ _ _, Sub.refl _, Sub.refl _, Sub.ptr _ _ _ _, trivial⟩ ⟨rfl, SubO.refl _, rfl, SubO.refl _, rfl, SubO.cells ⟨hs2, trivial⟩, rfl, SubO.refl _, trivial⟩ (plays_spec ga gma hTa hIa { x with n := q } hx gd v2 g o ys hv2) ?_)
    rintro r L' ⟨gt2, gm2, l2, es2, cl2, v3, g3, o3, ys3, hT2, hI2, hv3, rfl, rfl⟩
    obtain ⟨v4, hs4, hv4⟩ := hv3.move 7
    refine ⟨.tuple [.ptr 0 gt2 0, .agg [rdX l2], .bool true], [(gt2, .cells tT [.any (.map (some gm2))]), (gm2, .obj (.map es2 cl2)), (gb, .cells tT [.any (.map (some gmb))]), (gmb, .obj (.map esb clb)), (g5, .cells tV [rdX la]), (g6, .cells tV [rdX lb]), (gd, .cells tD [v4]), (g3, o3), (g9, .cells tS [.int .i64 x.k, .int .i64 x.s, .int .i64 x.st, .ro 5 (x.ops.map encO) x.no, .str x.p, .int .i64 q])], Sub.tuples ⟨Sub.ptr _ _ _ _, Sub.refl _, Sub.refl _, trivial⟩, ⟨rfl, SubO.refl _, rfl, SubO.refl _, rfl, SubO.refl _, rfl, SubO.refl _, rfl, SubO.refl _, rfl, SubO.refl _, rfl, SubO.cells ⟨hs4, trivial⟩, rfl, SubO.refl _, rfl, SubO.refl _, trivial⟩, ?_⟩
    repeat(first|refine Sc ?_|refine fun(_:Nat)=>?_)
    refine fun r hr => ?_
    obtain rfl := add1 hr (by omega)
    repeat(first|refine Sc ?_|refine fun(_:Nat)=>?_)
    refine Cont.lpW ?_
    refine ⟨121 - (i + 1), _, _, by omega, Weak.sel ?_ [0, 1, 2, 3, 4, 5, 6, 7] (by decide) ?_, ⟨i + 1, gt2, gm2, l2, es2, cl2, gb, gmb, lb, esb, clb, v4, g3, o3, ys3, rfl, by omega, hT2, hI2, hTb, hIb, hv4, rfl, rfl⟩⟩
    · exact Ss
    · exact Sl
  · repeat(first|refine Sc ?_|refine fun(_:Nat)=>?_)
    refine ACallT.ok (ACall.selS [2, 3, 6, 7] (by decide) [.ptr 0 gb 0, .agg [rdX lb], encS { x with n := q }, .ptr 2 gd 0] (TreeL gb gmb esb clb ++ DeskL gd v2 g o) _ ⟨Sub.ptr _ _ _ _, Sub.refl _, Sub.refl _, Sub.ptr _ _ _ _, trivial⟩ ⟨rfl, SubO.refl _, rfl, SubO.refl _, rfl, SubO.cells ⟨hs2, trivial⟩, rfl, SubO.refl _, trivial⟩ (plays_spec gb gmb hTb hIb { x with n := q } hx gd v2 g o ys hv2) ?_)
    rintro r L' ⟨gt2, gm2, l2, es2, cl2, v3, g3, o3, ys3, hT2, hI2, hv3, rfl, rfl⟩
    obtain ⟨v4, hs4, hv4⟩ := hv3.move 7
    refine ⟨.tuple [.ptr 2 gt2 0, .agg [rdX l2], .bool true], [(ga, .cells tT [.any (.map (some gma))]), (gma, .obj (.map esa cla)), (gt2, .cells tT [.any (.map (some gm2))]), (gm2, .obj (.map es2 cl2)), (g5, .cells tV [rdX la]), (g6, .cells tV [rdX lb]), (gd, .cells tD [v4]), (g3, o3), (g9, .cells tS [.int .i64 x.k, .int .i64 x.s, .int .i64 x.st, .ro 5 (x.ops.map encO) x.no, .str x.p, .int .i64 q])], Sub.tuples ⟨Sub.ptr _ _ _ _, Sub.refl _, Sub.refl _, trivial⟩, ⟨rfl, SubO.refl _, rfl, SubO.refl _, rfl, SubO.refl _, rfl, SubO.refl _, rfl, SubO.refl _, rfl, SubO.refl _, rfl, SubO.cells ⟨hs4, trivial⟩, rfl, SubO.refl _, rfl, SubO.refl _, trivial⟩, ?_⟩
    repeat(first|refine Sc ?_|refine fun(_:Nat)=>?_)
    refine fun r hr => ?_
    obtain rfl := add1 hr (by omega)
    repeat(first|refine Sc ?_|refine fun(_:Nat)=>?_)
    refine Cont.lpW ?_
    refine ⟨121 - (i + 1), _, _, by omega, Weak.sel ?_ [0, 1, 2, 3, 4, 5, 6, 7] (by decide) ?_, ⟨i + 1, ga, gma, la, esa, cla, gt2, gm2, l2, es2, cl2, v4, g3, o3, ys3, rfl, by omega, hTa, hIa, hT2, hI2, hv4, rfl, rfl⟩⟩
    · exact Ss
    · exact Sl
end Go.Proofs.YtiikjcdjgmlcgaaGreatDoor.HBT
