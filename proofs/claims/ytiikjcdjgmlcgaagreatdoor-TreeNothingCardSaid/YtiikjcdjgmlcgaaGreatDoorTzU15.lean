/- The law TreeNothing, walked: a nil and a zero tree under every script. -/
import Derived.Test.YtiikjcdjgmlcgaaGreatDoorTzU11
import Derived.Test.YtiikjcdjgmlcgaaGreatDoorTzT48
set_option linter.unusedVariables false
set_option linter.unusedSimpArgs false
namespace Go.Proofs.YtiikjcdjgmlcgaaGreatDoor.HBT
open Go Go.Proofs.YtiikjcdjgmlcgaaGreatDoor.HB Go.RowKit
set_option maxRecDepth 8000

theorem endF_nil (s : Int) : endF [] s = ([], []) := by
  unfold endF
  split <;> rfl
def NonesQ (gt gd : Nat) : AV → AHeap → Prop := fun r L' => ∃ v g o ys, LO 2 ys v g o ∧ r = .tuple [.junk, .agg [rdX []], .bool true] ∧ L' = zeroT gt ++ DeskL gd v g o
set_option maxHeartbeats 16000000 in
theorem plays_nil (gt : Nat) (x : Stp) (hx : x.fit) (h5 : x.k ≠ 5) (gd : Nat) (v : AV) (g : Nat) (o : AObj) (ys : List Opp) (hv : LO 2 ys v g o) :
    FnSpec C 40 [.nilp, .agg [rdX []], encS x, .ptr 1 gd 0] (zeroT gt ++ DeskL gd v g o) (NonesQ gt gd) := by
  refine FnSpec.start C_ok Tryz.func40 rfl rfl Tryz.ntmps40 ?_
  repeat(first|refine Sc ?_|refine fun(_:Nat)=>?_)
  rename_i g5 g6 g9
  refine ⟨fun hk => ?_, fun hk => ?_⟩
  · have hk : x.k = 1 := hk
    have hlen : (x.ops.take x.no).length = x.no := by rw [List.length_take]; have := hx.1; omega
    have hbig : x.no ≤ 140737488351232 := by have := hx.2; omega
    have hrl : ((x.ops.take x.no ++ [room1, room2]).map encO).length = x.no + 2 := by rw [List.length_map, List.length_append, hlen]; rfl
    repeat(first|refine Sc ?_|refine fun(_:Nat)=>?_)
    refine ACallT.ok (ACall.sel [] (by decide) [.agg [rdX []], .int .i64 x.s, .int .i64 x.st, .junk] _ ⟨Sub.refl _, Sub.refl _, Sub.refl _, Sub.junk _, trivial⟩ (refPlay_none x.s x.st) ?_)
    rintro r L' ⟨rfl, rfl⟩
    refine ⟨_, Sub.refl _, ?_⟩
    repeat(first|refine Sc ?_|refine fun(_:Nat)=>?_)
    rename_i g11 g12
    obtain ⟨v2, hs2, hv2⟩ := hv.move 1
    refine ACallT.ok (ACall.selS [1, 2] (by decide) [.ptr 0 gd 0, .ro 5 (x.ops.map encO) x.no] [(gd, .cells tD [v2]), (g, o)] _ (.two (Sub.ptr _ _ _ _) (Sub.refl _)) ⟨rfl, SubO.cells ⟨hs2, trivial⟩, rfl, SubO.refl _, trivial⟩ (twin_spec gd v2 g o ys hv2 x.ops x.no hx.1 hx.2) ?_)
    rintro r L' ⟨g1, C1, rfl, rfl⟩
    refine ⟨.sl 2 g1 C1 (x.no + 2), [(gt, .cells tT [.any (.map none)]), (gd, .cells tD [.sl 2 g1 C1 (x.no + 2)]), (g1, .row tO 5 C1 ((x.ops.take x.no ++ [room1, room2]).map encO)), (g5, .cells tV [rdX []]), (g6, .cells tS [.int .i64 x.k, .int .i64 x.s, .int .i64 x.st, .ro 5 (x.ops.map encO) x.no, .str x.p, .int .i64 x.n]), (g9, .cells tV [.nils]), (g11, .cells tV [rdX []]), (g12, .cells tP [.int .i64 x.st, .int .i64 1, .int .i64 0, .ro 7 [] 0])], Sub.sl _ _ _ _ _, by repeat(first|exact trivial|refine Zy rfl ?_|refine Zy (SubO.refl _) ?_|refine Zy trivial ?_|refine Zy (SubO.cells (by repeat(first|exact trivial|refine Zy (Sub.refl _) ?_|refine Zy (Sub.sl _ _ _ _ _) ?_|refine Zy (Sub.ptr _ _ _ _) ?_))) ?_), ?_⟩
    repeat(first|refine Sc ?_|refine fun(_:Nat)=>?_)
    refine Run.join C_ok (fun env L => ∃ g15, env = [.junk, .junk, .junk, .junk, .junk, .junk, .ptr 4 g6 0, .junk, .junk, .ptr 5 g9 0, .junk, .ptr 6 g11 0, .ptr 7 g12 0, encCs [], .sl 2 g1 C1 (x.no + 2), .ptr 8 g15 0, encCs [], .junk, .junk, .junk, .junk, .junk, .junk, .junk, .junk, .junk, .junk, .junk, .junk, .junk, .junk, .junk, .junk, .junk, .junk, .junk, .junk, .junk, .junk, .junk, .junk, .junk, .junk, .junk, .junk, .junk, .junk, .junk, .junk, .junk, .junk, .junk, .junk, .junk, .junk, .junk, .junk, .junk, .junk, .junk, .junk, .junk, .junk, .junk, .junk, .junk, .junk, .junk, .junk, .junk, .junk, .junk, .junk, .junk, .junk, .junk, .junk, .junk, .junk, .junk, .junk, .junk, .junk, .junk, .junk, .junk, .junk, .junk, .junk, .junk, .junk, .junk, .junk, .junk, .junk, .junk, .junk, .junk, .junk, .junk, .junk, .junk, .junk, .junk, .junk, .junk, .junk, .junk, .junk, .junk, .junk, .junk, .junk, .junk, .junk, .junk, .junk, .junk, .junk, .junk, .junk, .junk, .junk, .junk, .junk, .junk, .junk, .junk, .junk, .junk, .junk, .junk, .junk, .junk, .junk, .junk, .junk, .junk, .junk, .junk, .junk, .junk, .junk, .junk, .junk, .junk, .junk, .junk, .junk, .junk, .junk, .junk, .junk, .junk, .junk, .junk, .junk, .junk, .junk, .junk, .junk, .junk, .junk, .junk, .junk, .junk, .junk, .junk, .junk, .junk, .junk, .junk, .junk, .junk, .junk, .junk, .junk, .junk, .junk, .junk, .junk, .junk, .junk, .junk] ∧ L = [(gt, .cells tT [.any (.map none)]), (gd, .cells tD [.sl 2 g1 C1 (x.no + 2)]), (g1, .row tO 5 C1 ((x.ops.take x.no ++ [room1, room2]).map encO)), (g5, .cells tV [rdX []]), (g6, .cells tS [.int .i64 x.k, .int .i64 x.s, .int .i64 x.st, .ro 5 (x.ops.map encO) x.no, .str x.p, .int .i64 x.n]), (g9, .cells tV [.nils]), (g11, .cells tV [rdX []]), (g12, .cells tP [.int .i64 x.st, .int .i64 1, .int .i64 0, .ro 7 [] 0]), (g15, .cells tP [.int .i64 x.st, .int .i64 1, .int .i64 0, .ro 7 [] 0])]) ?_ ?_
    · refine Run.drawnN C_ok (aopC_sound C_ok) [4] (.pre [0, 1, 2, 3, 4, 5, 6, 7, 8, 9] (.two 10 (.ofL [11, 12, 13, 14, 15, 16]) 14 (.ofL [10, 11, 12, 13, 15, 16]))) (by kernel_rfl) ?_
      repeat(first|refine Sc ?_|refine fun(_:Nat)=>?_)
      refine ⟨by rw [hrl]; omega, ?_⟩
      repeat(first|refine Sc ?_|refine fun(_:Nat)=>?_)
      refine OrdN.two ?_ ?_
      · repeat(first|refine Sc ?_|refine fun(_:Nat)=>?_)
        refine ACallT.ok (ACall.sel [] (by decide) [.nilp, .int .i64 x.s, .int .i64 x.st, .junk] _ ⟨Sub.refl _, Sub.refl _, Sub.refl _, Sub.junk _, trivial⟩ (play_nil x.s x.st) ?_)
        rintro r L' ⟨rfl, rfl⟩
        refine ⟨_, Sub.refl _, ?_⟩
        repeat(first|refine Sc ?_|refine fun(_:Nat)=>?_)
        rename_i g15
        refine ⟨_, _, Weak.sel ?_ [0, 1, 2, 3, 4, 5, 6, 7, 8] (by decide) ?_, g15, rfl, rfl⟩
        · exact Ss
        · exact Sl
      · repeat(first|refine Sc ?_|refine fun(_:Nat)=>?_)
        rename_i g15
        refine ACallT.ok (ACall.sel [] (by decide) [.nilp, .int .i64 x.s, .int .i64 x.st, .junk] _ ⟨Sub.refl _, Sub.refl _, Sub.refl _, Sub.junk _, trivial⟩ (play_nil x.s x.st) ?_)
        rintro r L' ⟨rfl, rfl⟩
        refine ⟨_, Sub.refl _, ?_⟩
        repeat(first|refine Sc ?_|refine fun(_:Nat)=>?_)
        refine ⟨_, _, Weak.sel ?_ [0, 1, 2, 3, 4, 5, 6, 7, 8] (by decide) ?_, g15, rfl, rfl⟩
        · exact Ss
        · exact Sl
    rintro env L ⟨g15, rfl, rfl⟩
    repeat(first|refine Sc ?_|refine fun(_:Nat)=>?_)
    refine ACallT.ok (ACall.ret_lend (.two (.row 2 g1 C1 _ tO 5 _ rfl (Nat.le_of_eq hrl.symm)) (.same _)) (untouched_spec x.ops x.no hx.1 hbig) rfl ?_)
    repeat(first|refine Sc ?_|refine fun(_:Nat)=>?_)
    refine Run.loopW (fun k env L => ∃ (i : Nat) (zs : List Opp), k = x.no + 2 - i ∧ i ≤ x.no + 2 ∧ zs.length = x.no + 2 ∧ env = [.junk, .junk, .junk, .junk, .junk, .junk, .junk, .junk, .junk, .ptr 5 g9 0, .junk, .ptr 6 g11 0, .ptr 7 g12 0, encCs [], .sl 2 g1 C1 (x.no + 2), .ptr 8 g15 0, encCs [], .bool true, .int .i64 i, .junk, .junk, .junk, .junk, .junk, .junk, .junk, .junk, .junk, .junk, .junk, .junk, .junk, .junk, .junk, .junk, .junk, .junk, .junk, .junk, .junk, .junk, .junk, .junk, .junk, .junk, .junk, .junk, .junk, .junk, .junk, .junk, .junk, .junk, .junk, .junk, .junk, .junk, .junk, .junk, .junk, .junk, .junk, .junk, .junk, .junk, .junk, .junk, .junk, .junk, .junk, .junk, .junk, .junk, .junk, .junk, .junk, .junk, .junk, .junk, .junk, .junk, .junk, .junk, .junk, .junk, .junk, .junk, .junk, .junk, .junk, .junk, .junk, .junk, .junk, .junk, .junk, .junk, .junk, .junk, .junk, .junk, .junk, .junk, .junk, .junk, .junk, .junk, .junk, .junk, .junk, .junk, .junk, .junk, .junk, .junk, .junk, .junk, .junk, .junk, .junk, .junk, .junk, .junk, .junk, .junk, .junk, .junk, .junk, .junk, .junk, .junk, .junk, .junk, .junk, .junk, .junk, .junk, .junk, .junk, .junk, .junk, .junk, .junk, .junk, .junk, .junk, .junk, .junk, .junk, .junk, .junk, .junk, .junk, .junk, .junk, .junk, .junk, .junk, .junk, .junk, .junk, .junk, .junk, .junk, .junk, .junk, .junk, .junk, .junk, .junk, .junk, .junk, .junk, .junk, .junk, .junk, .junk, .junk, .junk, .junk, .junk, .junk, .junk, .junk] ∧ L = [(gt, .cells tT [.any (.map none)]), (gd, .cells tD [.sl 2 g1 C1 (x.no + 2)]), (g1, .row tO 5 C1 (zs.map encO)), (g5, .cells tV [rdX []]), (g6, .cells tS [.int .i64 x.k, .int .i64 x.s, .int .i64 x.st, .ro 5 (x.ops.map encO) x.no, .str x.p, .int .i64 x.n]), (g9, .cells tV [.nils]), (g11, .cells tV [rdX []]), (g12, .cells tP [.int .i64 x.st, .int .i64 1, .int .i64 0, .ro 7 [] 0]), (g15, .cells tP [.int .i64 x.st, .int .i64 1, .int .i64 0, .ro 7 [] 0])]) (x.no + 2)
      [.junk, .junk, .junk, .junk, .junk, .junk, .junk, .junk, .junk, .ptr 5 g9 0, .junk, .ptr 6 g11 0, .ptr 7 g12 0, encCs [], .sl 2 g1 C1 (x.no + 2), .ptr 8 g15 0, encCs [], .bool true, .int .i64 (0 : Nat), .junk, .junk, .junk, .junk, .junk, .junk, .junk, .junk, .junk, .junk, .junk, .junk, .junk, .junk, .junk, .junk, .junk, .junk, .junk, .junk, .junk, .junk, .junk, .junk, .junk, .junk, .junk, .junk, .junk, .junk, .junk, .junk, .junk, .junk, .junk, .junk, .junk, .junk, .junk, .junk, .junk, .junk, .junk, .junk, .junk, .junk, .junk, .junk, .junk, .junk, .junk, .junk, .junk, .junk, .junk, .junk, .junk, .junk, .junk, .junk, .junk, .junk, .junk, .junk, .junk, .junk, .junk, .junk, .junk, .junk, .junk, .junk, .junk, .junk, .junk, .junk, .junk, .junk, .junk, .junk, .junk, .junk, .junk, .junk, .junk, .junk, .junk, .junk, .junk, .junk, .junk, .junk, .junk, .junk, .junk, .junk, .junk, .junk, .junk, .junk, .junk, .junk, .junk, .junk, .junk, .junk, .junk, .junk, .junk, .junk, .junk, .junk, .junk, .junk, .junk, .junk, .junk, .junk, .junk, .junk, .junk, .junk, .junk, .junk, .junk, .junk, .junk, .junk, .junk, .junk, .junk, .junk, .junk, .junk, .junk, .junk, .junk, .junk, .junk, .junk, .junk, .junk, .junk, .junk, .junk, .junk, .junk, .junk, .junk, .junk, .junk, .junk, .junk, .junk, .junk, .junk, .junk, .junk, .junk, .junk, .junk, .junk, .junk, .junk, .junk] [(gt, .cells tT [.any (.map none)]), (gd, .cells tD [.sl 2 g1 C1 (x.no + 2)]), (g1, .row tO 5 C1 ((x.ops.take x.no ++ [room1, room2]).map encO)), (g5, .cells tV [rdX []]), (g6, .cells tS [.int .i64 x.k, .int .i64 x.s, .int .i64 x.st, .ro 5 (x.ops.map encO) x.no, .str x.p, .int .i64 x.n]), (g9, .cells tV [.nils]), (g11, .cells tV [rdX []]), (g12, .cells tP [.int .i64 x.st, .int .i64 1, .int .i64 0, .ro 7 [] 0]), (g15, .cells tP [.int .i64 x.st, .int .i64 1, .int .i64 0, .ro 7 [] 0])] (Weak.sel ?_ [0, 1, 2, 3, 4, 5, 6, 7, 8] (by decide) ?_) ⟨0, _, by omega, by omega, by rw [List.length_append, hlen]; rfl, rfl, rfl⟩ ?_
    · exact Ss
    · exact Sl
    rintro k env L ⟨i, zs, rfl, hi, hz, rfl, rfl⟩
    repeat(first|refine Sc ?_|refine fun(_:Nat)=>?_)
    refine ⟨fun h => ?_, fun h => ?_⟩
    · have h : (i : Int) < ((x.no + 2 : Nat) : Int) := h
      obtain ⟨z, ez⟩ : ∃ z, zs[i]? = some z := ⟨_, List.getElem?_eq_getElem (by omega)⟩
      repeat(first|refine Sc ?_|refine fun(_:Nat)=>?_)
      refine ⟨h, ?_⟩
      repeat(first|refine Sc ?_|refine fun(_:Nat)=>?_)
      refine ⟨encO z, map_at encO ez, ?_⟩
      repeat(first|refine Sc ?_|refine fun(_:Nat)=>?_)
      refine fun r hr => ?_
      obtain rfl := add1 hr (by omega)
      repeat(first|refine Sc ?_|refine fun(_:Nat)=>?_)
      refine Cont.lpW ?_
      refine ⟨x.no + 2 - (i + 1), _, _, by omega, Weak.sel ?_ [0, 1, 2, 3, 4, 5, 6, 7, 8] (by decide) ?_, ⟨i + 1, zs.set i spoilt, rfl, by omega, by rw [List.length_set]; exact hz, rfl, rfl⟩⟩
      · exact Ss
      · rw [List.map_set]
        exact Sl
    repeat(first|refine Sc ?_|refine fun(_:Nat)=>?_)
    refine Run.drawnK C_ok (aopC_sound C_ok) [6, 7, 8] [0, 1, 2, 3, 4, 5, 6, 7, 8, 9, 10, 11, 12, 13, 14, 15] (by kernel_rfl) ?_
    repeat(first|refine Sc ?_|refine fun(_:Nat)=>?_)
    refine ACallT.ok (ACall.ret (reply_same ⟨x.st, 1, 0, []⟩ (Nat.zero_le _) (fun _ h => by cases h)) ?_)
    repeat(first|refine Sc ?_|refine fun(_:Nat)=>?_)
    refine ACallT.ok (ACall.ret (changes_same [] (Nat.zero_le _)) ?_)
    repeat(first|refine Sc ?_|refine fun(_:Nat)=>?_)
    exact ⟨.tuple [.junk, .agg [rdX []], .bool true], _, FinOk.keep _ [0, 1, 2] (Sub.tuples ⟨Sub.junk _, Sub.refl _, Sub.refl _, trivial⟩) (by decide) rfl, .sl 2 g1 C1 (x.no + 2), g1, _, zs, .inr ⟨C1, by rw [hz], rfl⟩, rfl, rfl⟩
  have hk1 : ¬ x.k = 1 := hk
  repeat(first|refine Sc ?_|refine fun(_:Nat)=>?_)
  refine ⟨fun hk => ?_, fun hk => ?_⟩
  · have hk : x.k = 2 := hk
    have hre := refEnd_spec [] (Nat.zero_le _) x.s
    rw [endF_nil] at hre
    repeat(first|refine Sc ?_|refine fun(_:Nat)=>?_)
    refine ACallT.ok (ACall.ret hre ?_)
    repeat(first|refine Sc ?_|refine fun(_:Nat)=>?_)
    rename_i g19
    refine ACallT.ok (ACall.sel [] (by decide) [.nilp, .int .i64 x.s] _ ⟨Sub.refl _, Sub.refl _, trivial⟩ (end_nil x.s) ?_)
    rintro r L' ⟨rfl, rfl⟩
    refine ⟨_, Sub.refl _, ?_⟩
    repeat(first|refine Sc ?_|refine fun(_:Nat)=>?_)
    refine Run.drawnK C_ok (aopC_sound C_ok) [6] [0, 1, 2, 3, 4, 5, 6, 7] (by kernel_rfl) ?_
    repeat(first|refine Sc ?_|refine fun(_:Nat)=>?_)
    refine ACallT.ok (ACall.ret (changes_same [] (Nat.zero_le _)) ?_)
    repeat(first|refine Sc ?_|refine fun(_:Nat)=>?_)
    exact ⟨.tuple [.junk, .agg [rdX []], .bool true], _, FinOk.keep _ [0, 1, 2] (Sub.tuples ⟨Sub.junk _, Sub.refl _, Sub.refl _, trivial⟩) (by decide) rfl, v, g, o, ys, hv, rfl, rfl⟩
  have hk2 : ¬ x.k = 2 := hk
  repeat(first|refine Sc ?_|refine fun(_:Nat)=>?_)
  refine ⟨fun hk => ?_, fun hk => ?_⟩
  · have hk : x.k = 3 := hk
    repeat(first|refine Sc ?_|refine fun(_:Nat)=>?_)
    refine ACallT.ok (ACall.ret (refPart_none x.p x.n) ?_)
    repeat(first|refine Sc ?_|refine fun(_:Nat)=>?_)
    refine ACallT.ok (ACall.sel [] (by decide) [.nilp, .str x.p, .int .i64 x.n] _ ⟨Sub.refl _, Sub.refl _, Sub.refl _, trivial⟩ (part_nil x.p x.n) ?_)
    rintro r L' ⟨rfl, rfl⟩
    refine ⟨_, Sub.refl _, ?_⟩
    repeat(first|refine Sc ?_|refine fun(_:Nat)=>?_)
    refine Run.drawnK C_ok (aopC_sound C_ok) [3] [0, 1, 2, 4, 3, 5, 6, 7, 8, 9, 10, 11, 12, 13] (by kernel_rfl) ?_
    repeat(first|refine Sc ?_|refine fun(_:Nat)=>?_)
    refine ACallT.ok (ACall.ret (num_spec 1) ?_)
    repeat(first|refine Sc ?_|refine fun(_:Nat)=>?_)
    refine ⟨fun _ => ?_, fun h => absurd rfl h⟩
    repeat(first|refine Sc ?_|refine fun(_:Nat)=>?_)
    refine ACallT.ok (ACall.ret (seen_same [] (Nat.zero_le _)) ?_)
    repeat(first|refine Sc ?_|refine fun(_:Nat)=>?_)
    exact ⟨.tuple [.junk, .agg [rdX []], .bool true], _, FinOk.keep _ [0, 1, 2] (Sub.tuples ⟨Sub.junk _, Sub.refl _, Sub.refl _, trivial⟩) (by decide) rfl, v, g, o, ys, hv, rfl, rfl⟩
  have hk3 : ¬ x.k = 3 := hk
  repeat(first|refine Sc ?_|refine fun(_:Nat)=>?_)
  refine ⟨fun hk => ?_, fun hk => ?_⟩
  · have hk : x.k = 4 := hk
    repeat(first|refine Sc ?_|refine fun(_:Nat)=>?_)
    refine ACallT.ok (ACall.sel [] (by decide) [.nilp] _ ⟨Sub.refl _, trivial⟩ (nodes_nil) ?_)
    rintro r L' ⟨rfl, rfl⟩
    refine ⟨_, Sub.refl _, ?_⟩
    repeat(first|refine Sc ?_|refine fun(_:Nat)=>?_)
    refine Run.drawnK C_ok (aopC_sound C_ok) [3] [0, 1, 2, 3, 4, 5, 6, 7, 8] (by kernel_rfl) ?_
    repeat(first|refine Sc ?_|refine fun(_:Nat)=>?_)
    refine ACallT.ok (ACall.ret (refNodes_spec [] (Nat.zero_le _)) ?_)
    repeat(first|refine Sc ?_|refine fun(_:Nat)=>?_)
    refine ACallT.ok (ACall.ret (fulls_same [] (Nat.zero_le _)) ?_)
    repeat(first|refine Sc ?_|refine fun(_:Nat)=>?_)
    exact ⟨.tuple [.junk, .agg [rdX []], .bool true], _, FinOk.keep _ [0, 1, 2] (Sub.tuples ⟨Sub.junk _, Sub.refl _, Sub.refl _, trivial⟩) (by decide) rfl, v, g, o, ys, hv, rfl, rfl⟩
  have hk4 : ¬ x.k = 4 := hk
  repeat(first|refine Sc ?_|refine fun(_:Nat)=>?_)
  refine ⟨fun hk => absurd hk h5, fun hk => ?_⟩
  repeat(first|refine Sc ?_|refine fun(_:Nat)=>?_)
  refine Run.drawnK C_ok (aopC_sound C_ok) [3] [0, 1, 2, 3, 4] (by kernel_rfl) ?_
  repeat(first|refine Sc ?_|refine fun(_:Nat)=>?_)
  exact ⟨.tuple [.junk, .agg [rdX []], .bool true], _, FinOk.keep _ [0, 1, 2] (Sub.tuples ⟨Sub.junk _, Sub.refl _, Sub.refl _, trivial⟩) (by decide) rfl, v, g, o, ys, hv, rfl, rfl⟩
set_option maxHeartbeats 16000000 in
theorem plays_zero (gt : Nat) (x : Stp) (hx : x.fit) (h5 : x.k ≠ 5) (gd : Nat) (v : AV) (g : Nat) (o : AObj) (ys : List Opp) (hv : LO 2 ys v g o) :
    FnSpec C 40 [.ptr 0 gt 0, .agg [rdX []], encS x, .ptr 1 gd 0] (zeroT gt ++ DeskL gd v g o) (NonesQ gt gd) := by
  refine FnSpec.start C_ok Tryz.func40 rfl rfl Tryz.ntmps40 ?_
  repeat(first|refine Sc ?_|refine fun(_:Nat)=>?_)
  rename_i g5 g6 g9
  refine ⟨fun hk => ?_, fun hk => ?_⟩
  · have hk : x.k = 1 := hk
    have hlen : (x.ops.take x.no).length = x.no := by rw [List.length_take]; have := hx.1; omega
    have hbig : x.no ≤ 140737488351232 := by have := hx.2; omega
    have hrl : ((x.ops.take x.no ++ [room1, room2]).map encO).length = x.no + 2 := by rw [List.length_map, List.length_append, hlen]; rfl
    repeat(first|refine Sc ?_|refine fun(_:Nat)=>?_)
    refine ACallT.ok (ACall.sel [] (by decide) [.agg [rdX []], .int .i64 x.s, .int .i64 x.st, .junk] _ ⟨Sub.refl _, Sub.refl _, Sub.refl _, Sub.junk _, trivial⟩ (refPlay_none x.s x.st) ?_)
    rintro r L' ⟨rfl, rfl⟩
    refine ⟨_, Sub.refl _, ?_⟩
    repeat(first|refine Sc ?_|refine fun(_:Nat)=>?_)
    rename_i g11 g12
    obtain ⟨v2, hs2, hv2⟩ := hv.move 1
    refine ACallT.ok (ACall.selS [1, 2] (by decide) [.ptr 0 gd 0, .ro 5 (x.ops.map encO) x.no] [(gd, .cells tD [v2]), (g, o)] _ (.two (Sub.ptr _ _ _ _) (Sub.refl _)) ⟨rfl, SubO.cells ⟨hs2, trivial⟩, rfl, SubO.refl _, trivial⟩ (twin_spec gd v2 g o ys hv2 x.ops x.no hx.1 hx.2) ?_)
    rintro r L' ⟨g1, C1, rfl, rfl⟩
    refine ⟨.sl 2 g1 C1 (x.no + 2), [(gt, .cells tT [.any (.map none)]), (gd, .cells tD [.sl 2 g1 C1 (x.no + 2)]), (g1, .row tO 5 C1 ((x.ops.take x.no ++ [room1, room2]).map encO)), (g5, .cells tV [rdX []]), (g6, .cells tS [.int .i64 x.k, .int .i64 x.s, .int .i64 x.st, .ro 5 (x.ops.map encO) x.no, .str x.p, .int .i64 x.n]), (g9, .cells tV [.nils]), (g11, .cells tV [rdX []]), (g12, .cells tP [.int .i64 x.st, .int .i64 1, .int .i64 0, .ro 7 [] 0])], Sub.sl _ _ _ _ _, by repeat(first|exact trivial|refine Zy rfl ?_|refine Zy (SubO.refl _) ?_|refine Zy trivial ?_|refine Zy (SubO.cells (by repeat(first|exact trivial|refine Zy (Sub.refl _) ?_|refine Zy (Sub.sl _ _ _ _ _) ?_|refine Zy (Sub.ptr _ _ _ _) ?_))) ?_), ?_⟩
    repeat(first|refine Sc ?_|refine fun(_:Nat)=>?_)
    refine Run.join C_ok (fun env L => ∃ g15, env = [.junk, .junk, .junk, .junk, .junk, .junk, .ptr 4 g6 0, .junk, .junk, .ptr 5 g9 0, .junk, .ptr 6 g11 0, .ptr 7 g12 0, encCs [], .sl 2 g1 C1 (x.no + 2), .ptr 8 g15 0, encCs [], .junk, .junk, .junk, .junk, .junk, .junk, .junk, .junk, .junk, .junk, .junk, .junk, .junk, .junk, .junk, .junk, .junk, .junk, .junk, .junk, .junk, .junk, .junk, .junk, .junk, .junk, .junk, .junk, .junk, .junk, .junk, .junk, .junk, .junk, .junk, .junk, .junk, .junk, .junk, .junk, .junk, .junk, .junk, .junk, .junk, .junk, .junk, .junk, .junk, .junk, .junk, .junk, .junk, .junk, .junk, .junk, .junk, .junk, .junk, .junk, .junk, .junk, .junk, .junk, .junk, .junk, .junk, .junk, .junk, .junk, .junk, .junk, .junk, .junk, .junk, .junk, .junk, .junk, .junk, .junk, .junk, .junk, .junk, .junk, .junk, .junk, .junk, .junk, .junk, .junk, .junk, .junk, .junk, .junk, .junk, .junk, .junk, .junk, .junk, .junk, .junk, .junk, .junk, .junk, .junk, .junk, .junk, .junk, .junk, .junk, .junk, .junk, .junk, .junk, .junk, .junk, .junk, .junk, .junk, .junk, .junk, .junk, .junk, .junk, .junk, .junk, .junk, .junk, .junk, .junk, .junk, .junk, .junk, .junk, .junk, .junk, .junk, .junk, .junk, .junk, .junk, .junk, .junk, .junk, .junk, .junk, .junk, .junk, .junk, .junk, .junk, .junk, .junk, .junk, .junk, .junk, .junk, .junk, .junk, .junk, .junk, .junk, .junk, .junk, .junk, .junk, .junk] ∧ L = [(gt, .cells tT [.any (.map none)]), (gd, .cells tD [.sl 2 g1 C1 (x.no + 2)]), (g1, .row tO 5 C1 ((x.ops.take x.no ++ [room1, room2]).map encO)), (g5, .cells tV [rdX []]), (g6, .cells tS [.int .i64 x.k, .int .i64 x.s, .int .i64 x.st, .ro 5 (x.ops.map encO) x.no, .str x.p, .int .i64 x.n]), (g9, .cells tV [.nils]), (g11, .cells tV [rdX []]), (g12, .cells tP [.int .i64 x.st, .int .i64 1, .int .i64 0, .ro 7 [] 0]), (g15, .cells tP [.int .i64 x.st, .int .i64 1, .int .i64 0, .ro 7 [] 0])]) ?_ ?_
    · refine Run.drawnN C_ok (aopC_sound C_ok) [4] (.pre [0, 1, 2, 3, 4, 5, 6, 7, 8, 9] (.two 10 (.ofL [11, 12, 13, 14, 15, 16]) 14 (.ofL [10, 11, 12, 13, 15, 16]))) (by kernel_rfl) ?_
      repeat(first|refine Sc ?_|refine fun(_:Nat)=>?_)
      refine ⟨by rw [hrl]; omega, ?_⟩
      repeat(first|refine Sc ?_|refine fun(_:Nat)=>?_)
      refine OrdN.two ?_ ?_
      · repeat(first|refine Sc ?_|refine fun(_:Nat)=>?_)
        refine ACallT.ok (ACall.sel [0] (by decide) [.ptr 0 gt 0, .int .i64 x.s, .int .i64 x.st, .junk] _ ⟨Sub.ptr _ _ _ _, Sub.refl _, Sub.refl _, Sub.junk _, trivial⟩ (play_zero gt x.s x.st) ?_)
        rintro r L' ⟨rfl, rfl⟩
        refine ⟨_, Sub.refl _, ?_⟩
        repeat(first|refine Sc ?_|refine fun(_:Nat)=>?_)
        rename_i g15
        refine ⟨_, _, Weak.sel ?_ [0, 1, 2, 3, 4, 5, 6, 7, 8] (by decide) ?_, g15, rfl, rfl⟩
        · exact Ss
        · exact Sl
      · repeat(first|refine Sc ?_|refine fun(_:Nat)=>?_)
        rename_i g15
        refine ACallT.ok (ACall.sel [0] (by decide) [.ptr 0 gt 0, .int .i64 x.s, .int .i64 x.st, .junk] _ ⟨Sub.ptr _ _ _ _, Sub.refl _, Sub.refl _, Sub.junk _, trivial⟩ (play_zero gt x.s x.st) ?_)
        rintro r L' ⟨rfl, rfl⟩
        refine ⟨_, Sub.refl _, ?_⟩
        repeat(first|refine Sc ?_|refine fun(_:Nat)=>?_)
        refine ⟨_, _, Weak.sel ?_ [0, 1, 2, 3, 4, 5, 6, 7, 8] (by decide) ?_, g15, rfl, rfl⟩
        · exact Ss
        · exact Sl
    rintro env L ⟨g15, rfl, rfl⟩
    repeat(first|refine Sc ?_|refine fun(_:Nat)=>?_)
    refine ACallT.ok (ACall.ret_lend (.two (.row 2 g1 C1 _ tO 5 _ rfl (Nat.le_of_eq hrl.symm)) (.same _)) (untouched_spec x.ops x.no hx.1 hbig) rfl ?_)
    repeat(first|refine Sc ?_|refine fun(_:Nat)=>?_)
    refine Run.loopW (fun k env L => ∃ (i : Nat) (zs : List Opp), k = x.no + 2 - i ∧ i ≤ x.no + 2 ∧ zs.length = x.no + 2 ∧ env = [.junk, .junk, .junk, .junk, .junk, .junk, .junk, .junk, .junk, .ptr 5 g9 0, .junk, .ptr 6 g11 0, .ptr 7 g12 0, encCs [], .sl 2 g1 C1 (x.no + 2), .ptr 8 g15 0, encCs [], .bool true, .int .i64 i, .junk, .junk, .junk, .junk, .junk, .junk, .junk, .junk, .junk, .junk, .junk, .junk, .junk, .junk, .junk, .junk, .junk, .junk, .junk, .junk, .junk, .junk, .junk, .junk, .junk, .junk, .junk, .junk, .junk, .junk, .junk, .junk, .junk, .junk, .junk, .junk, .junk, .junk, .junk, .junk, .junk, .junk, .junk, .junk, .junk, .junk, .junk, .junk, .junk, .junk, .junk, .junk, .junk, .junk, .junk, .junk, .junk, .junk, .junk, .junk, .junk, .junk, .junk, .junk, .junk, .junk, .junk, .junk, .junk, .junk, .junk, .junk, .junk, .junk, .junk, .junk, .junk, .junk, .junk, .junk, .junk, .junk, .junk, .junk, .junk, .junk, .junk, .junk, .junk, .junk, .junk, .junk, .junk, .junk, .junk, .junk, .junk, .junk, .junk, .junk, .junk, .junk, .junk, .junk, .junk, .junk, .junk, .junk, .junk, .junk, .junk, .junk, .junk, .junk, .junk, .junk, .junk, .junk, .junk, .junk, .junk, .junk, .junk, .junk, .junk, .junk, .junk, .junk, .junk, .junk, .junk, .junk, .junk, .junk, .junk, .junk, .junk, .junk, .junk, .junk, .junk, .junk, .junk, .junk, .junk, .junk, .junk, .junk, .junk, .junk, .junk, .junk, .junk, .junk, .junk, .junk, .junk, .junk, .junk, .junk, .junk, .junk, .junk, .junk, .junk] ∧ L = [(gt, .cells tT [.any (.map none)]), (gd, .cells tD [.sl 2 g1 C1 (x.no + 2)]), (g1, .row tO 5 C1 (zs.map encO)), (g5, .cells tV [rdX []]), (g6, .cells tS [.int .i64 x.k, .int .i64 x.s, .int .i64 x.st, .ro 5 (x.ops.map encO) x.no, .str x.p, .int .i64 x.n]), (g9, .cells tV [.nils]), (g11, .cells tV [rdX []]), (g12, .cells tP [.int .i64 x.st, .int .i64 1, .int .i64 0, .ro 7 [] 0]), (g15, .cells tP [.int .i64 x.st, .int .i64 1, .int .i64 0, .ro 7 [] 0])]) (x.no + 2)
      [.junk, .junk, .junk, .junk, .junk, .junk, .junk, .junk, .junk, .ptr 5 g9 0, .junk, .ptr 6 g11 0, .ptr 7 g12 0, encCs [], .sl 2 g1 C1 (x.no + 2), .ptr 8 g15 0, encCs [], .bool true, .int .i64 (0 : Nat), .junk, .junk, .junk, .junk, .junk, .junk, .junk, .junk, .junk, .junk, .junk, .junk, .junk, .junk, .junk, .junk, .junk, .junk, .junk, .junk, .junk, .junk, .junk, .junk, .junk, .junk, .junk, .junk, .junk, .junk, .junk, .junk, .junk, .junk, .junk, .junk, .junk, .junk, .junk, .junk, .junk, .junk, .junk, .junk, .junk, .junk, .junk, .junk, .junk, .junk, .junk, .junk, .junk, .junk, .junk, .junk, .junk, .junk, .junk, .junk, .junk, .junk, .junk, .junk, .junk, .junk, .junk, .junk, .junk, .junk, .junk, .junk, .junk, .junk, .junk, .junk, .junk, .junk, .junk, .junk, .junk, .junk, .junk, .junk, .junk, .junk, .junk, .junk, .junk, .junk, .junk, .junk, .junk, .junk, .junk, .junk, .junk, .junk, .junk, .junk, .junk, .junk, .junk, .junk, .junk, .junk, .junk, .junk, .junk, .junk, .junk, .junk, .junk, .junk, .junk, .junk, .junk, .junk, .junk, .junk, .junk, .junk, .junk, .junk, .junk, .junk, .junk, .junk, .junk, .junk, .junk, .junk, .junk, .junk, .junk, .junk, .junk, .junk, .junk, .junk, .junk, .junk, .junk, .junk, .junk, .junk, .junk, .junk, .junk, .junk, .junk, .junk, .junk, .junk, .junk, .junk, .junk, .junk, .junk, .junk, .junk, .junk, .junk, .junk, .junk] [(gt, .cells tT [.any (.map none)]), (gd, .cells tD [.sl 2 g1 C1 (x.no + 2)]), (g1, .row tO 5 C1 ((x.ops.take x.no ++ [room1, room2]).map encO)), (g5, .cells tV [rdX []]), (g6, .cells tS [.int .i64 x.k, .int .i64 x.s, .int .i64 x.st, .ro 5 (x.ops.map encO) x.no, .str x.p, .int .i64 x.n]), (g9, .cells tV [.nils]), (g11, .cells tV [rdX []]), (g12, .cells tP [.int .i64 x.st, .int .i64 1, .int .i64 0, .ro 7 [] 0]), (g15, .cells tP [.int .i64 x.st, .int .i64 1, .int .i64 0, .ro 7 [] 0])] (Weak.sel ?_ [0, 1, 2, 3, 4, 5, 6, 7, 8] (by decide) ?_) ⟨0, _, by omega, by omega, by rw [List.length_append, hlen]; rfl, rfl, rfl⟩ ?_
    · exact Ss
    · exact Sl
    rintro k env L ⟨i, zs, rfl, hi, hz, rfl, rfl⟩
    repeat(first|refine Sc ?_|refine fun(_:Nat)=>?_)
    refine ⟨fun h => ?_, fun h => ?_⟩
    · have h : (i : Int) < ((x.no + 2 : Nat) : Int) := h
      obtain ⟨z, ez⟩ : ∃ z, zs[i]? = some z := ⟨_, List.getElem?_eq_getElem (by omega)⟩
      repeat(first|refine Sc ?_|refine fun(_:Nat)=>?_)
      refine ⟨h, ?_⟩
      repeat(first|refine Sc ?_|refine fun(_:Nat)=>?_)
      refine ⟨encO z, map_at encO ez, ?_⟩
      repeat(first|refine Sc ?_|refine fun(_:Nat)=>?_)
      refine fun r hr => ?_
      obtain rfl := add1 hr (by omega)
      repeat(first|refine Sc ?_|refine fun(_:Nat)=>?_)
      refine Cont.lpW ?_
      refine ⟨x.no + 2 - (i + 1), _, _, by omega, Weak.sel ?_ [0, 1, 2, 3, 4, 5, 6, 7, 8] (by decide) ?_, ⟨i + 1, zs.set i spoilt, rfl, by omega, by rw [List.length_set]; exact hz, rfl, rfl⟩⟩
      · exact Ss
      · rw [List.map_set]
        exact Sl
    repeat(first|refine Sc ?_|refine fun(_:Nat)=>?_)
    refine Run.drawnK C_ok (aopC_sound C_ok) [6, 7, 8] [0, 1, 2, 3, 4, 5, 6, 7, 8, 9, 10, 11, 12, 13, 14, 15] (by kernel_rfl) ?_
    repeat(first|refine Sc ?_|refine fun(_:Nat)=>?_)
    refine ACallT.ok (ACall.ret (reply_same ⟨x.st, 1, 0, []⟩ (Nat.zero_le _) (fun _ h => by cases h)) ?_)
    repeat(first|refine Sc ?_|refine fun(_:Nat)=>?_)
    refine ACallT.ok (ACall.ret (changes_same [] (Nat.zero_le _)) ?_)
    repeat(first|refine Sc ?_|refine fun(_:Nat)=>?_)
    exact ⟨.tuple [.junk, .agg [rdX []], .bool true], _, FinOk.keep _ [0, 1, 2] (Sub.tuples ⟨Sub.junk _, Sub.refl _, Sub.refl _, trivial⟩) (by decide) rfl, .sl 2 g1 C1 (x.no + 2), g1, _, zs, .inr ⟨C1, by rw [hz], rfl⟩, rfl, rfl⟩
  have hk1 : ¬ x.k = 1 := hk
  repeat(first|refine Sc ?_|refine fun(_:Nat)=>?_)
  refine ⟨fun hk => ?_, fun hk => ?_⟩
  · have hk : x.k = 2 := hk
    have hre := refEnd_spec [] (Nat.zero_le _) x.s
    rw [endF_nil] at hre
    repeat(first|refine Sc ?_|refine fun(_:Nat)=>?_)
    refine ACallT.ok (ACall.ret hre ?_)
    repeat(first|refine Sc ?_|refine fun(_:Nat)=>?_)
    rename_i g19
    refine ACallT.ok (ACall.sel [0] (by decide) [.ptr 0 gt 0, .int .i64 x.s] _ ⟨Sub.ptr _ _ _ _, Sub.refl _, trivial⟩ (end_zero gt x.s) ?_)
    rintro r L' ⟨rfl, rfl⟩
    refine ⟨_, Sub.refl _, ?_⟩
    repeat(first|refine Sc ?_|refine fun(_:Nat)=>?_)
    refine Run.drawnK C_ok (aopC_sound C_ok) [6] [0, 1, 2, 3, 4, 5, 6, 7] (by kernel_rfl) ?_
    repeat(first|refine Sc ?_|refine fun(_:Nat)=>?_)
    refine ACallT.ok (ACall.ret (changes_same [] (Nat.zero_le _)) ?_)
    repeat(first|refine Sc ?_|refine fun(_:Nat)=>?_)
    exact ⟨.tuple [.junk, .agg [rdX []], .bool true], _, FinOk.keep _ [0, 1, 2] (Sub.tuples ⟨Sub.junk _, Sub.refl _, Sub.refl _, trivial⟩) (by decide) rfl, v, g, o, ys, hv, rfl, rfl⟩
  have hk2 : ¬ x.k = 2 := hk
  repeat(first|refine Sc ?_|refine fun(_:Nat)=>?_)
  refine ⟨fun hk => ?_, fun hk => ?_⟩
  · have hk : x.k = 3 := hk
    repeat(first|refine Sc ?_|refine fun(_:Nat)=>?_)
    refine ACallT.ok (ACall.ret (refPart_none x.p x.n) ?_)
    repeat(first|refine Sc ?_|refine fun(_:Nat)=>?_)
    refine ACallT.ok (ACall.sel [0] (by decide) [.ptr 0 gt 0, .str x.p, .int .i64 x.n] _ ⟨Sub.ptr _ _ _ _, Sub.refl _, Sub.refl _, trivial⟩ (part_zero gt x.p x.n) ?_)
    rintro r L' ⟨rfl, rfl⟩
    refine ⟨_, Sub.refl _, ?_⟩
    repeat(first|refine Sc ?_|refine fun(_:Nat)=>?_)
    refine Run.drawnK C_ok (aopC_sound C_ok) [3] [0, 1, 2, 4, 3, 5, 6, 7, 8, 9, 10, 11, 12, 13] (by kernel_rfl) ?_
    repeat(first|refine Sc ?_|refine fun(_:Nat)=>?_)
    refine ACallT.ok (ACall.ret (num_spec 1) ?_)
    repeat(first|refine Sc ?_|refine fun(_:Nat)=>?_)
    refine ⟨fun _ => ?_, fun h => absurd rfl h⟩
    repeat(first|refine Sc ?_|refine fun(_:Nat)=>?_)
    refine ACallT.ok (ACall.ret (seen_same [] (Nat.zero_le _)) ?_)
    repeat(first|refine Sc ?_|refine fun(_:Nat)=>?_)
    exact ⟨.tuple [.junk, .agg [rdX []], .bool true], _, FinOk.keep _ [0, 1, 2] (Sub.tuples ⟨Sub.junk _, Sub.refl _, Sub.refl _, trivial⟩) (by decide) rfl, v, g, o, ys, hv, rfl, rfl⟩
  have hk3 : ¬ x.k = 3 := hk
  repeat(first|refine Sc ?_|refine fun(_:Nat)=>?_)
  refine ⟨fun hk => ?_, fun hk => ?_⟩
  · have hk : x.k = 4 := hk
    repeat(first|refine Sc ?_|refine fun(_:Nat)=>?_)
    refine ACallT.ok (ACall.sel [0] (by decide) [.ptr 0 gt 0] _ ⟨Sub.ptr _ _ _ _, trivial⟩ (nodes_zero gt) ?_)
    rintro r L' ⟨rfl, rfl⟩
    refine ⟨_, Sub.refl _, ?_⟩
    repeat(first|refine Sc ?_|refine fun(_:Nat)=>?_)
    refine Run.drawnK C_ok (aopC_sound C_ok) [3] [0, 1, 2, 3, 4, 5, 6, 7, 8] (by kernel_rfl) ?_
    repeat(first|refine Sc ?_|refine fun(_:Nat)=>?_)
    refine ACallT.ok (ACall.ret (refNodes_spec [] (Nat.zero_le _)) ?_)
    repeat(first|refine Sc ?_|refine fun(_:Nat)=>?_)
    refine ACallT.ok (ACall.ret (fulls_same [] (Nat.zero_le _)) ?_)
    repeat(first|refine Sc ?_|refine fun(_:Nat)=>?_)
    exact ⟨.tuple [.junk, .agg [rdX []], .bool true], _, FinOk.keep _ [0, 1, 2] (Sub.tuples ⟨Sub.junk _, Sub.refl _, Sub.refl _, trivial⟩) (by decide) rfl, v, g, o, ys, hv, rfl, rfl⟩
  have hk4 : ¬ x.k = 4 := hk
  repeat(first|refine Sc ?_|refine fun(_:Nat)=>?_)
  refine ⟨fun hk => absurd hk h5, fun hk => ?_⟩
  repeat(first|refine Sc ?_|refine fun(_:Nat)=>?_)
  refine Run.drawnK C_ok (aopC_sound C_ok) [3] [0, 1, 2, 3, 4] (by kernel_rfl) ?_
  repeat(first|refine Sc ?_|refine fun(_:Nat)=>?_)
  exact ⟨.tuple [.junk, .agg [rdX []], .bool true], _, FinOk.keep _ [0, 1, 2] (Sub.tuples ⟨Sub.junk _, Sub.refl _, Sub.refl _, trivial⟩) (by decide) rfl, v, g, o, ys, hv, rfl, rfl⟩
set_option maxHeartbeats 4000000 in
theorem lawNothing_spec (xs : List Stp) (n : Nat) (hn : n ≤ xs.length) (hok : ∀ x ∈ xs, x.fit) : FnSpec C 14 [rdS xs n] [] (fun r L' => r = .bool true ∧ L' = []) := by
  refine FnSpec.start C_ok Tryz.func14 rfl rfl Tryz.ntmps14 ?_
  repeat(first|refine Sc ?_|refine fun(_:Nat)=>?_)
  rename_i gt g5 gd
  refine Run.loopW (fun k env L => ∃ (i : Nat) (v : AV) (g : Nat) (o : AObj) (ys : List Opp), k = 121 - i ∧ i ≤ 120 ∧ LO 3 ys v g o ∧ env = [rdS xs n, .junk, .junk, .nilp, .ptr 0 gt 0, .ptr 1 g5 0, .ptr 2 gd 0, .int .i64 i, .junk, .junk, .junk, .junk, .junk, .junk, .junk, .junk, .junk, .junk, .junk, .junk, .junk, .junk, .junk, .junk, .junk, .junk, .junk, .junk, .junk, .junk, .junk, .junk, .junk, .junk, .junk, .junk, .junk, .junk, .junk, .junk, .junk, .junk, .junk, .junk, .junk, .junk, .junk, .junk, .junk, .junk, .junk, .junk, .junk, .junk, .junk, .junk, .junk, .junk, .junk, .junk, .junk, .junk, .junk, .junk, .junk] ∧ L = [(gt, .cells tT [.any (.map none)]), (g5, .cells tV [.nils]), (gd, .cells tD [v]), (g, o)]) 121
    [rdS xs n, .junk, .junk, .nilp, .ptr 0 gt 0, .ptr 1 g5 0, .ptr 2 gd 0, .int .i64 (0 : Nat), .junk, .junk, .junk, .junk, .junk, .junk, .junk, .junk, .junk, .junk, .junk, .junk, .junk, .junk, .junk, .junk, .junk, .junk, .junk, .junk, .junk, .junk, .junk, .junk, .junk, .junk, .junk, .junk, .junk, .junk, .junk, .junk, .junk, .junk, .junk, .junk, .junk, .junk, .junk, .junk, .junk, .junk, .junk, .junk, .junk, .junk, .junk, .junk, .junk, .junk, .junk, .junk, .junk, .junk, .junk, .junk, .junk] [(gt, .cells tT [.any (.map none)]), (g5, .cells tV [.nils]), (gd, .cells tD [.nils]), (0, .dead)] (Weak.sel ?_ [0, 1, 2, 9] (by decide) ?_) ⟨0, .nils, 0, .dead, [], by omega, by omega, .inl ⟨rfl, rfl, rfl⟩, rfl, rfl⟩ ?_
  · exact Ss
  · exact Sl
  rintro k env L ⟨i, v, g, o, ys, rfl, hi, hv, rfl, rfl⟩
  repeat(first|refine Sc ?_|refine fun(_:Nat)=>?_)
  refine ⟨fun h => ?_, fun h => ?_⟩
  rotate_left
  · repeat(first|refine Sc ?_|refine fun(_:Nat)=>?_)
    refine ACallT.ok (ACall.ret known_spec ?_)
    repeat(first|refine Sc ?_|refine fun(_:Nat)=>?_)
    exact ⟨_, [], FinOk.drop _ _, rfl, rfl⟩
  have h : (i : Int) < (n : Int) := h
  repeat(first|refine Sc ?_|refine fun(_:Nat)=>?_)
  refine ⟨fun h2 => ?_, fun h2 => ?_⟩
  rotate_left
  · repeat(first|refine Sc ?_|refine fun(_:Nat)=>?_)
    refine ACallT.ok (ACall.ret known_spec ?_)
    repeat(first|refine Sc ?_|refine fun(_:Nat)=>?_)
    exact ⟨_, [], FinOk.drop _ _, rfl, rfl⟩
  have h2 : (i : Int) < 120 := h2
  obtain ⟨x, ex⟩ : ∃ x, xs[i]? = some x := ⟨_, List.getElem?_eq_getElem (by omega)⟩
  have hx := hok x (List.mem_of_getElem? ex)
  repeat(first|refine Sc ?_|refine fun(_:Nat)=>?_)
  refine ⟨h, encS x, map_at encS ex, ?_⟩
  repeat(first|refine Sc ?_|refine fun(_:Nat)=>?_)
  refine ⟨fun h5 => ?_, fun h5 => ?_⟩
  · have h5 : x.k = 5 := h5
    repeat(first|refine Sc ?_|refine fun(_:Nat)=>?_)
    refine fun r hr => ?_
    obtain rfl := add1 hr (by omega)
    repeat(first|refine Sc ?_|refine fun(_:Nat)=>?_)
    refine Cont.lpW ?_
    refine ⟨121 - (i + 1), _, _, by omega, Weak.sel ?_ [0, 1, 2, 3] (by decide) ?_, ⟨i + 1, v, g, o, ys, rfl, by omega, hv, rfl, rfl⟩⟩
    · exact Ss
    · exact Sl
  have h5 : x.k ≠ 5 := h5
  repeat(first|refine Sc ?_|refine fun(_:Nat)=>?_)
  obtain ⟨w1, hsw1, hw1⟩ := hv.move 2
  refine Run.join C_ok (fun env L => ∃ (v3 : AV) (g3 : Nat) (o3 : AObj) (ys3 : List Opp) (a3 : Nat), LO 3 ys3 v3 g3 o3 ∧ env = [rdS xs n, .junk, .junk, .nilp, .ptr 0 gt 0, .ptr 1 g5 0, .ptr 2 gd 0, .int .i64 i, .junk, .ptr 4 a3 0, .bool true, .junk, .junk, .junk, .junk, .junk, .junk, .junk, .junk, .junk, .junk, .junk, .junk, .junk, .junk, .junk, .junk, .junk, .junk, .junk, .junk, .junk, .junk, .junk, .junk, .junk, .junk, .junk, .junk, .junk, .junk, .junk, .junk, .junk, .junk, .junk, .junk, .junk, .junk, .junk, .junk, .junk, .junk, .junk, .junk, .junk, .junk, .junk, .junk, .junk, .junk, .junk, .junk, .junk, .junk] ∧ L = [(gt, .cells tT [.any (.map none)]), (g5, .cells tV [.nils]), (gd, .cells tD [v3]), (g3, o3), (a3, .cells tV [rdX []])]) ?_ ?_
  · refine Run.drawnN C_ok (aopC_sound C_ok) [1] (.pre [0, 1, 2, 3, 4, 5, 6] (.two 7 (.ofL [8, 9, 10, 11, 12, 13, 14, 15]) 12 (.ofL [7, 8, 9, 10, 11, 13, 14, 15]))) (by kernel_rfl) ?_
    repeat(first|refine Sc ?_|refine fun(_:Nat)=>?_)
    refine ⟨h, encS x, map_at encS ex, ?_⟩
    repeat(first|refine Sc ?_|refine fun(_:Nat)=>?_)
    refine OrdN.two ?_ ?_
    · repeat(first|refine Sc ?_|refine fun(_:Nat)=>?_)
      refine ACallT.ok (ACall.selS [0, 2, 3] (by decide) [.nilp, .agg [rdX []], encS x, .ptr 1 gd 0] (zeroT gt ++ DeskL gd w1 g o) _ ⟨Sub.refl _, Sub.aggs ⟨Sub.nilsRo 7, trivial⟩, Sub.refl _, Sub.ptr _ _ _ _, trivial⟩ ⟨rfl, SubO.refl _, rfl, SubO.cells ⟨hsw1, trivial⟩, rfl, SubO.refl _, trivial⟩ (plays_nil gt x hx h5 gd w1 g o ys hw1) ?_)
      rintro r L' ⟨u3, g3, o3, ys3, hu3, rfl, rfl⟩
      obtain ⟨v3, hs3, hv3⟩ := hu3.move 3
      refine ⟨.tuple [.junk, .agg [rdX []], .bool true], [(gt, .cells tT [.any (.map none)]), (_, .dead), (gd, .cells tD [v3]), (g3, o3)], Sub.refl _, ⟨rfl, SubO.refl _, rfl, SubO.refl _, rfl, SubO.cells ⟨hs3, trivial⟩, rfl, SubO.refl _, trivial⟩, ?_⟩
      repeat(first|refine Sc ?_|refine fun(_:Nat)=>?_)
      rename_i a3
      refine ⟨_, _, Weak.sel ?_ [0, 1, 2, 3, 4] (by decide) ?_, v3, g3, o3, ys3, a3, hv3, rfl, rfl⟩
      · exact Ss
      · exact Sl
    · repeat(first|refine Sc ?_|refine fun(_:Nat)=>?_)
      rename_i a3
      refine ACallT.ok (ACall.selS [0, 2, 3] (by decide) [.nilp, .agg [rdX []], encS x, .ptr 1 gd 0] (zeroT gt ++ DeskL gd w1 g o) _ ⟨Sub.refl _, Sub.aggs ⟨Sub.nilsRo 7, trivial⟩, Sub.refl _, Sub.ptr _ _ _ _, trivial⟩ ⟨rfl, SubO.refl _, rfl, SubO.cells ⟨hsw1, trivial⟩, rfl, SubO.refl _, trivial⟩ (plays_nil gt x hx h5 gd w1 g o ys hw1) ?_)
      rintro r L' ⟨u3, g3, o3, ys3, hu3, rfl, rfl⟩
      obtain ⟨v3, hs3, hv3⟩ := hu3.move 3
      refine ⟨.tuple [.junk, .agg [rdX []], .bool true], [(gt, .cells tT [.any (.map none)]), (_, .dead), (gd, .cells tD [v3]), (g3, o3), (a3, .cells tV [.nils])], Sub.refl _, ⟨rfl, SubO.refl _, rfl, SubO.refl _, rfl, SubO.cells ⟨hs3, trivial⟩, rfl, SubO.refl _, rfl, SubO.refl _, trivial⟩, ?_⟩
      repeat(first|refine Sc ?_|refine fun(_:Nat)=>?_)
      refine ⟨_, _, Weak.sel ?_ [0, 1, 2, 3, 4] (by decide) ?_, v3, g3, o3, ys3, a3, hv3, rfl, rfl⟩
      · exact Ss
      · exact Sl
  rintro env L ⟨v3, g3, o3, ys3, a3, hv3, rfl, rfl⟩
  repeat(first|refine Sc ?_|refine fun(_:Nat)=>?_)
  obtain ⟨w2, hsw2, hw2⟩ := hv3.move 2
  refine Run.join C_ok (fun env L => ∃ (v4 : AV) (g4 : Nat) (o4 : AObj) (ys4 : List Opp) (a4 : Nat), LO 3 ys4 v4 g4 o4 ∧ env = [rdS xs n, .junk, .junk, .nilp, .ptr 0 gt 0, .ptr 1 g5 0, .ptr 2 gd 0, .int .i64 i, .junk, .junk, .bool true, .junk, .ptr 5 a4 0, .bool true, .junk, .junk, .junk, .junk, .junk, .junk, .junk, .junk, .junk, .junk, .junk, .junk, .junk, .junk, .junk, .junk, .junk, .junk, .junk, .junk, .junk, .junk, .junk, .junk, .junk, .junk, .junk, .junk, .junk, .junk, .junk, .junk, .junk, .junk, .junk, .junk, .junk, .junk, .junk, .junk, .junk, .junk, .junk, .junk, .junk, .junk, .junk, .junk, .junk, .junk, .junk] ∧ L = [(gt, .cells tT [.any (.map none)]), (g5, .cells tV [.nils]), (gd, .cells tD [v4]), (g4, o4), (a3, .cells tV [rdX []]), (a4, .cells tV [rdX []])]) ?_ ?_
  · refine Run.drawnN C_ok (aopC_sound C_ok) [1] (.pre [0, 1, 2, 3, 4, 5, 6] (.two 7 (.ofL [8, 9, 10, 11, 12, 13, 14, 15]) 12 (.ofL [7, 8, 9, 10, 11, 13, 14, 15]))) (by kernel_rfl) ?_
    repeat(first|refine Sc ?_|refine fun(_:Nat)=>?_)
    refine ⟨h, encS x, map_at encS ex, ?_⟩
    repeat(first|refine Sc ?_|refine fun(_:Nat)=>?_)
    refine OrdN.two ?_ ?_
    · repeat(first|refine Sc ?_|refine fun(_:Nat)=>?_)
      refine ACallT.ok (ACall.selS [0, 2, 3] (by decide) [.ptr 0 gt 0, .agg [rdX []], encS x, .ptr 1 gd 0] (zeroT gt ++ DeskL gd w2 g3 o3) _ ⟨Sub.ptr _ _ _ _, Sub.aggs ⟨Sub.nilsRo 7, trivial⟩, Sub.refl _, Sub.ptr _ _ _ _, trivial⟩ ⟨rfl, SubO.refl _, rfl, SubO.cells ⟨hsw2, trivial⟩, rfl, SubO.refl _, trivial⟩ (plays_zero gt x hx h5 gd w2 g3 o3 ys3 hw2) ?_)
      rintro r L' ⟨u4, g4, o4, ys4, hu4, rfl, rfl⟩
      obtain ⟨v4, hs4, hv4⟩ := hu4.move 3
      refine ⟨.tuple [.junk, .agg [rdX []], .bool true], [(gt, .cells tT [.any (.map none)]), (_, .dead), (gd, .cells tD [v4]), (g4, o4), (a3, .cells tV [rdX []])], Sub.refl _, ⟨rfl, SubO.refl _, rfl, SubO.refl _, rfl, SubO.cells ⟨hs4, trivial⟩, rfl, SubO.refl _, rfl, SubO.refl _, trivial⟩, ?_⟩
      repeat(first|refine Sc ?_|refine fun(_:Nat)=>?_)
      rename_i a4
      refine ⟨_, _, Weak.sel ?_ [0, 1, 2, 3, 4, 5] (by decide) ?_, v4, g4, o4, ys4, a4, hv4, rfl, rfl⟩
      · exact Ss
      · exact Sl
    · repeat(first|refine Sc ?_|refine fun(_:Nat)=>?_)
      rename_i a4
      refine ACallT.ok (ACall.selS [0, 2, 3] (by decide) [.ptr 0 gt 0, .agg [rdX []], encS x, .ptr 1 gd 0] (zeroT gt ++ DeskL gd w2 g3 o3) _ ⟨Sub.ptr _ _ _ _, Sub.aggs ⟨Sub.nilsRo 7, trivial⟩, Sub.refl _, Sub.ptr _ _ _ _, trivial⟩ ⟨rfl, SubO.refl _, rfl, SubO.cells ⟨hsw2, trivial⟩, rfl, SubO.refl _, trivial⟩ (plays_zero gt x hx h5 gd w2 g3 o3 ys3 hw2) ?_)
      rintro r L' ⟨u4, g4, o4, ys4, hu4, rfl, rfl⟩
      obtain ⟨v4, hs4, hv4⟩ := hu4.move 3
      refine ⟨.tuple [.junk, .agg [rdX []], .bool true], [(gt, .cells tT [.any (.map none)]), (_, .dead), (gd, .cells tD [v4]), (g4, o4), (a3, .cells tV [rdX []]), (a4, .cells tV [.nils])], Sub.refl _, ⟨rfl, SubO.refl _, rfl, SubO.refl _, rfl, SubO.cells ⟨hs4, trivial⟩, rfl, SubO.refl _, rfl, SubO.refl _, rfl, SubO.refl _, trivial⟩, ?_⟩
      repeat(first|refine Sc ?_|refine fun(_:Nat)=>?_)
      refine ⟨_, _, Weak.sel ?_ [0, 1, 2, 3, 4, 5] (by decide) ?_, v4, g4, o4, ys4, a4, hv4, rfl, rfl⟩
      · exact Ss
      · exact Sl
  rintro env L ⟨v4, g4, o4, ys4, a4, hv4, rfl, rfl⟩
  repeat(first|refine Sc ?_|refine fun(_:Nat)=>?_)
  refine fun r hr => ?_
  obtain rfl := add1 hr (by omega)
  repeat(first|refine Sc ?_|refine fun(_:Nat)=>?_)
  refine Cont.lpW ?_
  refine ⟨121 - (i + 1), _, _, by omega, Weak.sel ?_ [0, 1, 2, 3] (by decide) ?_, ⟨i + 1, v4, g4, o4, ys4, rfl, by omega, hv4, rfl, rfl⟩⟩
  · exact Ss
  · exact Sl
end Go.Proofs.YtiikjcdjgmlcgaaGreatDoor.HBT
