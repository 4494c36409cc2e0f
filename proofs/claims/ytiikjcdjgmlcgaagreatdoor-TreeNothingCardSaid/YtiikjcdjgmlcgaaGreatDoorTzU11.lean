/- The laws' one step on both trees. -/
import Derived.Test.YtiikjcdjgmlcgaaGreatDoorTzU6
import Derived.Test.YtiikjcdjgmlcgaaGreatDoorTzU8
import Derived.Test.YtiikjcdjgmlcgaaGreatDoorTzU9
import Derived.Test.YtiikjcdjgmlcgaaGreatDoorTzT46
set_option linter.unusedVariables false
set_option linter.unusedSimpArgs false
namespace Go.Proofs.YtiikjcdjgmlcgaaGreatDoor.HBT
open Go Go.Proofs.YtiikjcdjgmlcgaaGreatDoor.HB Go.RowKit
set_option maxRecDepth 8000

abbrev tS : TypeId := 33
abbrev DeskL (gd : Nat) (v : AV) (g : Nat) (o : AObj) : AHeap := [(gd, .cells tD [v]), (g, o)]
def PlaysQ (gd : Nat) : AV → AHeap → Prop := fun r L' => ∃ gt gm l es cl v g o ys, TM l es cl ∧ TInv l ∧ LO 3 ys v g o ∧ r = .tuple [.ptr 0 gt 0, .agg [rdX l], .bool true] ∧ L' = TreeL gt gm es cl ++ DeskL gd v g o
abbrev spoilt : Opp := ⟨99, ⟨#[115, 112, 111, 105, 108, 116]⟩, ⟨#[115, 112, 111, 105, 108, 116]⟩, 0, 0⟩
set_option maxHeartbeats 16000000 in
theorem plays_spec (gt gm : Nat) {l : List Fu} {es : Array MapEntry} {cl : Nat} (hT : TM l es cl) (hI : TInv l) (x : Stp) (hx : x.fit) (gd : Nat) (v : AV) (g : Nat) (o : AObj) (ys : List Opp) (hv : LO 3 ys v g o) :
    FnSpec C 40 [.ptr 0 gt 0, .agg [rdX l], encS x, .ptr 2 gd 0] (TreeL gt gm es cl ++ DeskL gd v g o) (PlaysQ gd) := by
  have hL := hI.len
  refine FnSpec.start C_ok Tryz.func40 rfl rfl Tryz.ntmps40 ?_
  repeat(first|refine Sc ?_|refine fun(_:Nat)=>?_)
  rename_i g5 g6 g9
  refine ⟨fun hk => ?_, fun hk => ?_⟩
  · have hk : x.k = 1 := hk
    have hlen : (x.ops.take x.no).length = x.no := by rw [List.length_take]; have := hx.1; omega
    have hbig : x.no ≤ 140737488351232 := by have := hx.2; omega
    have hrl : ((x.ops.take x.no ++ [room1, room2]).map encO).length = x.no + 2 := by rw [List.length_map, List.length_append, hlen]; rfl
    obtain ⟨q1, q2, q3⟩ := playR_small (s := x.s) (st := x.st) (ops := x.ops.take x.no) hI
    repeat(first|refine Sc ?_|refine fun(_:Nat)=>?_)
    refine ACallT.ok (ACall.ret (refPlay_spec hI x.s x.st x.ops x.no hx.1) ?_)
    repeat(first|refine Sc ?_|refine fun(_:Nat)=>?_)
    rename_i g11 g12
    obtain ⟨v2, hs2, hv2⟩ := hv.move 1
    refine ACallT.ok (ACall.selS [2, 3] (by decide) [.ptr 0 gd 0, .ro 5 (x.ops.map encO) x.no] [(gd, .cells tD [v2]), (g, o)] _ (.two (Sub.ptr _ _ _ _) (Sub.refl _)) ⟨rfl, SubO.cells ⟨hs2, trivial⟩, rfl, SubO.refl _, trivial⟩ (twin_spec gd v2 g o ys hv2 x.ops x.no hx.1 hx.2) ?_)
    rintro r L' ⟨g1, C1, rfl, rfl⟩
    refine ⟨.sl 3 g1 C1 (x.no + 2), [(gt, .cells tT [.any (.map (some gm))]), (gm, .obj (.map es cl)), (gd, .cells tD [.sl 3 g1 C1 (x.no + 2)]), (g1, .row tO 5 C1 ((x.ops.take x.no ++ [room1, room2]).map encO)), (g5, .cells tV [rdX l]), (g6, .cells tS [.int .i64 x.k, .int .i64 x.s, .int .i64 x.st, .ro 5 (x.ops.map encO) x.no, .str x.p, .int .i64 x.n]), (g9, .cells tV [.nils]), (g11, .cells tV [rdX (playR l x.s x.st (x.ops.take x.no)).1]), (g12, .cells tP [.int .i64 (playR l x.s x.st (x.ops.take x.no)).2.1.st, .int .i64 (playR l x.s x.st (x.ops.take x.no)).2.1.code, .int .i64 (playR l x.s x.st (x.ops.take x.no)).2.1.at_, .ro 7 ((playR l x.s x.st (x.ops.take x.no)).2.1.rs.map encR) (playR l x.s x.st (x.ops.take x.no)).2.1.rs.length])], Sub.sl _ _ _ _ _, by repeat(first|exact trivial|refine Zy rfl ?_|refine Zy (SubO.refl _) ?_|refine Zy trivial ?_|refine Zy (SubO.cells (by repeat(first|exact trivial|refine Zy (Sub.refl _) ?_|refine Zy (Sub.sl _ _ _ _ _) ?_|refine Zy (Sub.ptr _ _ _ _) ?_))) ?_), ?_⟩
    repeat(first|refine Sc ?_|refine fun(_:Nat)=>?_)
    have hpo := play_own gt gm hT hI x.s x.st (x.ops.take x.no ++ [room1, room2]) x.no (by rw [List.length_append, hlen]; omega) g1 C1
    have htk : (x.ops.take x.no ++ [room1, room2]).take x.no = x.ops.take x.no := List.take_left' hlen
    rw [htk] at hpo
    refine Run.join C_ok (fun env L => ∃ gm2 es2 cl2 g15, TM (playR l x.s x.st (x.ops.take x.no)).1 es2 cl2 ∧ env = [.ptr 0 gt 0, .junk, .junk, .junk, .junk, .junk, .ptr 5 g6 0, .junk, .junk, .ptr 6 g9 0, .junk, .ptr 7 g11 0, .ptr 8 g12 0, encCs (playR l x.s x.st (x.ops.take x.no)).2.2, .sl 3 g1 C1 (x.no + 2), .ptr 9 g15 0, encCs (playR l x.s x.st (x.ops.take x.no)).2.2, .junk, .junk, .junk, .junk, .junk, .junk, .junk, .junk, .junk, .junk, .junk, .junk, .junk, .junk, .junk, .junk, .junk, .junk, .junk, .junk, .junk, .junk, .junk, .junk, .junk, .junk, .junk, .junk, .junk, .junk, .junk, .junk, .junk, .junk, .junk, .junk, .junk, .junk, .junk, .junk, .junk, .junk, .junk, .junk, .junk, .junk, .junk, .junk, .junk, .junk, .junk, .junk, .junk, .junk, .junk, .junk, .junk, .junk, .junk, .junk, .junk, .junk, .junk, .junk, .junk, .junk, .junk, .junk, .junk, .junk, .junk, .junk, .junk, .junk, .junk, .junk, .junk, .junk, .junk, .junk, .junk, .junk, .junk, .junk, .junk, .junk, .junk, .junk, .junk, .junk, .junk, .junk, .junk, .junk, .junk, .junk, .junk, .junk, .junk, .junk, .junk, .junk, .junk, .junk, .junk, .junk, .junk, .junk, .junk, .junk, .junk, .junk, .junk, .junk, .junk, .junk, .junk, .junk, .junk, .junk, .junk, .junk, .junk, .junk, .junk, .junk, .junk, .junk, .junk, .junk, .junk, .junk, .junk, .junk, .junk, .junk, .junk, .junk, .junk, .junk, .junk, .junk, .junk, .junk, .junk, .junk, .junk, .junk, .junk, .junk, .junk, .junk, .junk, .junk, .junk, .junk, .junk, .junk, .junk, .junk, .junk, .junk, .junk, .junk, .junk, .junk, .junk] ∧ L = [(gt, .cells tT [.any (.map (some gm2))]), (gm2, .obj (.map es2 cl2)), (gd, .cells tD [.sl 3 g1 C1 (x.no + 2)]), (g1, .row tO 5 C1 ((x.ops.take x.no ++ [room1, room2]).map encO)), (g5, .cells tV [rdX l]), (g6, .cells tS [.int .i64 x.k, .int .i64 x.s, .int .i64 x.st, .ro 5 (x.ops.map encO) x.no, .str x.p, .int .i64 x.n]), (g9, .cells tV [.nils]), (g11, .cells tV [rdX (playR l x.s x.st (x.ops.take x.no)).1]), (g12, .cells tP [.int .i64 (playR l x.s x.st (x.ops.take x.no)).2.1.st, .int .i64 (playR l x.s x.st (x.ops.take x.no)).2.1.code, .int .i64 (playR l x.s x.st (x.ops.take x.no)).2.1.at_, .ro 7 ((playR l x.s x.st (x.ops.take x.no)).2.1.rs.map encR) (playR l x.s x.st (x.ops.take x.no)).2.1.rs.length]), (g15, .cells tP [.int .i64 (playR l x.s x.st (x.ops.take x.no)).2.1.st, .int .i64 (playR l x.s x.st (x.ops.take x.no)).2.1.code, .int .i64 (playR l x.s x.st (x.ops.take x.no)).2.1.at_, .ro 7 ((playR l x.s x.st (x.ops.take x.no)).2.1.rs.map encR) (playR l x.s x.st (x.ops.take x.no)).2.1.rs.length])]) ?_ ?_
    · refine Run.drawnN C_ok (aopC_sound C_ok) [5] (.pre [0, 1, 2, 3, 4, 5, 6, 7, 8, 9] (.two 10 (.ofL [11, 12, 13, 14, 15, 16]) 14 (.ofL [10, 11, 12, 13, 15, 16]))) (by kernel_rfl) ?_
      repeat(first|refine Sc ?_|refine fun(_:Nat)=>?_)
      refine ⟨by rw [hrl]; omega, ?_⟩
      repeat(first|refine Sc ?_|refine fun(_:Nat)=>?_)
      refine OrdN.two ?_ ?_
      · repeat(first|refine Sc ?_|refine fun(_:Nat)=>?_)
        refine ACallT.ok (ACall.sel [0, 1, 3] (by decide) [.ptr 0 gt 0, .int .i64 x.s, .int .i64 x.st, .sl 2 g1 C1 x.no] _ ⟨Sub.refl _, Sub.refl _, Sub.refl _, Sub.sl _ _ _ _ _, trivial⟩ hpo ?_)
        rintro r L' ⟨gm2, es2, cl2, hT2, rfl, rfl⟩
        refine ⟨_, Sub.refl _, ?_⟩
        repeat(first|refine Sc ?_|refine fun(_:Nat)=>?_)
        rename_i g15
        refine ⟨_, _, Weak.sel ?_ [0, 1, 2, 3, 4, 5, 6, 7, 8, 9] (by decide) ?_, gm2, es2, cl2, g15, hT2, rfl, rfl⟩
        · exact Ss
        · exact Sl
      · repeat(first|refine Sc ?_|refine fun(_:Nat)=>?_)
        rename_i g15
        refine ACallT.ok (ACall.sel [0, 1, 3] (by decide) [.ptr 0 gt 0, .int .i64 x.s, .int .i64 x.st, .sl 2 g1 C1 x.no] _ ⟨Sub.refl _, Sub.refl _, Sub.refl _, Sub.sl _ _ _ _ _, trivial⟩ hpo ?_)
        rintro r L' ⟨gm2, es2, cl2, hT2, rfl, rfl⟩
        refine ⟨_, Sub.refl _, ?_⟩
        repeat(first|refine Sc ?_|refine fun(_:Nat)=>?_)
        refine ⟨_, _, Weak.sel ?_ [0, 1, 2, 3, 4, 5, 6, 7, 8, 9] (by decide) ?_, gm2, es2, cl2, g15, hT2, rfl, rfl⟩
        · exact Ss
        · exact Sl
    rintro env L ⟨gm2, es2, cl2, g15, hT2, rfl, rfl⟩
    repeat(first|refine Sc ?_|refine fun(_:Nat)=>?_)
    refine ACallT.ok (ACall.ret_lend (.two (.row 3 g1 C1 _ tO 5 _ rfl (Nat.le_of_eq hrl.symm)) (.same _)) (untouched_spec x.ops x.no hx.1 hbig) rfl ?_)
    repeat(first|refine Sc ?_|refine fun(_:Nat)=>?_)
    refine Run.loopW (fun k env L => ∃ (i : Nat) (zs : List Opp), k = x.no + 2 - i ∧ i ≤ x.no + 2 ∧ zs.length = x.no + 2 ∧ env = [.ptr 0 gt 0, .junk, .junk, .junk, .junk, .junk, .junk, .junk, .junk, .ptr 6 g9 0, .junk, .ptr 7 g11 0, .ptr 8 g12 0, encCs (playR l x.s x.st (x.ops.take x.no)).2.2, .sl 3 g1 C1 (x.no + 2), .ptr 9 g15 0, encCs (playR l x.s x.st (x.ops.take x.no)).2.2, .bool true, .int .i64 i, .junk, .junk, .junk, .junk, .junk, .junk, .junk, .junk, .junk, .junk, .junk, .junk, .junk, .junk, .junk, .junk, .junk, .junk, .junk, .junk, .junk, .junk, .junk, .junk, .junk, .junk, .junk, .junk, .junk, .junk, .junk, .junk, .junk, .junk, .junk, .junk, .junk, .junk, .junk, .junk, .junk, .junk, .junk, .junk, .junk, .junk, .junk, .junk, .junk, .junk, .junk, .junk, .junk, .junk, .junk, .junk, .junk, .junk, .junk, .junk, .junk, .junk, .junk, .junk, .junk, .junk, .junk, .junk, .junk, .junk, .junk, .junk, .junk, .junk, .junk, .junk, .junk, .junk, .junk, .junk, .junk, .junk, .junk, .junk, .junk, .junk, .junk, .junk, .junk, .junk, .junk, .junk, .junk, .junk, .junk, .junk, .junk, .junk, .junk, .junk, .junk, .junk, .junk, .junk, .junk, .junk, .junk, .junk, .junk, .junk, .junk, .junk, .junk, .junk, .junk, .junk, .junk, .junk, .junk, .junk, .junk, .junk, .junk, .junk, .junk, .junk, .junk, .junk, .junk, .junk, .junk, .junk, .junk, .junk, .junk, .junk, .junk, .junk, .junk, .junk, .junk, .junk, .junk, .junk, .junk, .junk, .junk, .junk, .junk, .junk, .junk, .junk, .junk, .junk, .junk, .junk, .junk, .junk, .junk, .junk, .junk, .junk, .junk, .junk, .junk] ∧ L = [(gt, .cells tT [.any (.map (some gm2))]), (gm2, .obj (.map es2 cl2)), (gd, .cells tD [.sl 3 g1 C1 (x.no + 2)]), (g1, .row tO 5 C1 (zs.map encO)), (g5, .cells tV [rdX l]), (g6, .cells tS [.int .i64 x.k, .int .i64 x.s, .int .i64 x.st, .ro 5 (x.ops.map encO) x.no, .str x.p, .int .i64 x.n]), (g9, .cells tV [.nils]), (g11, .cells tV [rdX (playR l x.s x.st (x.ops.take x.no)).1]), (g12, .cells tP [.int .i64 (playR l x.s x.st (x.ops.take x.no)).2.1.st, .int .i64 (playR l x.s x.st (x.ops.take x.no)).2.1.code, .int .i64 (playR l x.s x.st (x.ops.take x.no)).2.1.at_, .ro 7 ((playR l x.s x.st (x.ops.take x.no)).2.1.rs.map encR) (playR l x.s x.st (x.ops.take x.no)).2.1.rs.length]), (g15, .cells tP [.int .i64 (playR l x.s x.st (x.ops.take x.no)).2.1.st, .int .i64 (playR l x.s x.st (x.ops.take x.no)).2.1.code, .int .i64 (playR l x.s x.st (x.ops.take x.no)).2.1.at_, .ro 7 ((playR l x.s x.st (x.ops.take x.no)).2.1.rs.map encR) (playR l x.s x.st (x.ops.take x.no)).2.1.rs.length])]) (x.no + 2)
      [.ptr 0 gt 0, .junk, .junk, .junk, .junk, .junk, .junk, .junk, .junk, .ptr 6 g9 0, .junk, .ptr 7 g11 0, .ptr 8 g12 0, encCs (playR l x.s x.st (x.ops.take x.no)).2.2, .sl 3 g1 C1 (x.no + 2), .ptr 9 g15 0, encCs (playR l x.s x.st (x.ops.take x.no)).2.2, .bool true, .int .i64 (0 : Nat), .junk, .junk, .junk, .junk, .junk, .junk, .junk, .junk, .junk, .junk, .junk, .junk, .junk, .junk, .junk, .junk, .junk, .junk, .junk, .junk, .junk, .junk, .junk, .junk, .junk, .junk, .junk, .junk, .junk, .junk, .junk, .junk, .junk, .junk, .junk, .junk, .junk, .junk, .junk, .junk, .junk, .junk, .junk, .junk, .junk, .junk, .junk, .junk, .junk, .junk, .junk, .junk, .junk, .junk, .junk, .junk, .junk, .junk, .junk, .junk, .junk, .junk, .junk, .junk, .junk, .junk, .junk, .junk, .junk, .junk, .junk, .junk, .junk, .junk, .junk, .junk, .junk, .junk, .junk, .junk, .junk, .junk, .junk, .junk, .junk, .junk, .junk, .junk, .junk, .junk, .junk, .junk, .junk, .junk, .junk, .junk, .junk, .junk, .junk, .junk, .junk, .junk, .junk, .junk, .junk, .junk, .junk, .junk, .junk, .junk, .junk, .junk, .junk, .junk, .junk, .junk, .junk, .junk, .junk, .junk, .junk, .junk, .junk, .junk, .junk, .junk, .junk, .junk, .junk, .junk, .junk, .junk, .junk, .junk, .junk, .junk, .junk, .junk, .junk, .junk, .junk, .junk, .junk, .junk, .junk, .junk, .junk, .junk, .junk, .junk, .junk, .junk, .junk, .junk, .junk, .junk, .junk, .junk, .junk, .junk, .junk, .junk, .junk, .junk, .junk] [(gt, .cells tT [.any (.map (some gm2))]), (gm2, .obj (.map es2 cl2)), (gd, .cells tD [.sl 3 g1 C1 (x.no + 2)]), (g1, .row tO 5 C1 ((x.ops.take x.no ++ [room1, room2]).map encO)), (g5, .cells tV [rdX l]), (g6, .cells tS [.int .i64 x.k, .int .i64 x.s, .int .i64 x.st, .ro 5 (x.ops.map encO) x.no, .str x.p, .int .i64 x.n]), (g9, .cells tV [.nils]), (g11, .cells tV [rdX (playR l x.s x.st (x.ops.take x.no)).1]), (g12, .cells tP [.int .i64 (playR l x.s x.st (x.ops.take x.no)).2.1.st, .int .i64 (playR l x.s x.st (x.ops.take x.no)).2.1.code, .int .i64 (playR l x.s x.st (x.ops.take x.no)).2.1.at_, .ro 7 ((playR l x.s x.st (x.ops.take x.no)).2.1.rs.map encR) (playR l x.s x.st (x.ops.take x.no)).2.1.rs.length]), (g15, .cells tP [.int .i64 (playR l x.s x.st (x.ops.take x.no)).2.1.st, .int .i64 (playR l x.s x.st (x.ops.take x.no)).2.1.code, .int .i64 (playR l x.s x.st (x.ops.take x.no)).2.1.at_, .ro 7 ((playR l x.s x.st (x.ops.take x.no)).2.1.rs.map encR) (playR l x.s x.st (x.ops.take x.no)).2.1.rs.length])] (Weak.sel ?_ [0, 1, 2, 3, 4, 5, 6, 7, 8, 9] (by decide) ?_) ⟨0, _, by omega, by omega, by rw [List.length_append, hlen]; rfl, rfl, rfl⟩ ?_
    · exact Ss
    · exact Sl
    rintro k env L ⟨i, zs, rfl, hi, hz, rfl, rfl⟩
    repeat(first|refine Sc ?_|refine fun(_:Nat)=>?_)
    refine ⟨fun h => ?_, fun h => ?_⟩
    · have h : (i : Int) < ((x.no + 2 : Nat) : Int) := h
      obtain ⟨z, ez⟩ : ∃ z, zs[i]? = some z := ⟨_, List.getElem?_eq_getElem (by omega)⟩
      repeat(first|refine Sc ?_|refine fun(_:Nat)=>?_)
      refine ⟨h, ?_⟩
      repeat(first|refine Sc ?_|refine fun(_:Nat)=>?_)
      refine ⟨encO z, map_at encO ez, ?_⟩
      repeat(first|refine Sc ?_|refine fun(_:Nat)=>?_)
      refine fun r hr => ?_
      obtain rfl := add1 hr (by omega)
      repeat(first|refine Sc ?_|refine fun(_:Nat)=>?_)
      refine Cont.lpW ?_
      refine ⟨x.no + 2 - (i + 1), _, _, by omega, Weak.sel ?_ [0, 1, 2, 3, 4, 5, 6, 7, 8, 9] (by decide) ?_, ⟨i + 1, zs.set i spoilt, rfl, by omega, by rw [List.length_set]; exact hz, rfl, rfl⟩⟩
      · exact Ss
      · rw [List.map_set]
        exact Sl
    repeat(first|refine Sc ?_|refine fun(_:Nat)=>?_)
    refine Run.drawnK C_ok (aopC_sound C_ok) [7, 8, 9] [0, 1, 2, 3, 4, 5, 6, 7, 8, 9, 10, 11, 12, 13, 14, 15] (by kernel_rfl) ?_
    repeat(first|refine Sc ?_|refine fun(_:Nat)=>?_)
    refine ACallT.ok (ACall.ret (reply_same (playR l x.s x.st (x.ops.take x.no)).2.1 q2 q1) ?_)
    repeat(first|refine Sc ?_|refine fun(_:Nat)=>?_)
    refine ACallT.ok (ACall.ret (changes_same (playR l x.s x.st (x.ops.take x.no)).2.2 q3) ?_)
    repeat(first|refine Sc ?_|refine fun(_:Nat)=>?_)
    exact ⟨.tuple [.ptr 0 gt 0, .agg [rdX (playR l x.s x.st (x.ops.take x.no)).1], .bool true], _, FinOk.keep _ [0, 1, 2, 3] (Sub.tuples ⟨Sub.ptr _ _ _ _, Sub.refl _, Sub.refl _, trivial⟩) (by decide) rfl, gt, gm2, _, es2, cl2, .sl 3 g1 C1 (x.no + 2), g1, _, zs, hT2, playR_inv hI, .inr ⟨C1, by rw [hz], rfl⟩, rfl, rfl⟩
  have hk1 : ¬ x.k = 1 := hk
  repeat(first|refine Sc ?_|refine fun(_:Nat)=>?_)
  refine ⟨fun hk => ?_, fun hk => ?_⟩
  · have hk : x.k = 2 := hk
    have hsm := endF_small (s := x.s) hI
    repeat(first|refine Sc ?_|refine fun(_:Nat)=>?_)
    refine ACallT.ok (ACall.ret (refEnd_spec l (by omega) x.s) ?_)
    repeat(first|refine Sc ?_|refine fun(_:Nat)=>?_)
    rename_i g19
    refine ACallT.ok (ACall.sel [0, 1] (by decide) [.ptr 0 gt 0, .int .i64 x.s] _ (.two (Sub.refl _) (Sub.refl _)) (end_spec gt gm hT hI x.s) ?_)
    rintro r L' ⟨es2, cl2, hT2, rfl, rfl⟩
    refine ⟨_, Sub.refl _, ?_⟩
    repeat(first|refine Sc ?_|refine fun(_:Nat)=>?_)
    refine Run.drawnK C_ok (aopC_sound C_ok) [7] [0, 1, 2, 3, 4, 5, 6, 7] (by kernel_rfl) ?_
    repeat(first|refine Sc ?_|refine fun(_:Nat)=>?_)
    refine ACallT.ok (ACall.ret (changes_same (endF l x.s).2 hsm) ?_)
    repeat(first|refine Sc ?_|refine fun(_:Nat)=>?_)
    exact ⟨.tuple [.ptr 0 gt 0, .agg [rdX (endF l x.s).1], .bool true], _, FinOk.keep _ [0, 1, 2, 3] (Sub.tuples ⟨Sub.ptr _ _ _ _, Sub.refl _, Sub.refl _, trivial⟩) (by decide) rfl, gt, gm, _, es2, cl2, v, g, o, ys, hT2, endF_inv hI, hv, rfl, rfl⟩
  have hk2 : ¬ x.k = 2 := hk
  repeat(first|refine Sc ?_|refine fun(_:Nat)=>?_)
  refine ⟨fun hk => ?_, fun hk => ?_⟩
  · have hk : x.k = 3 := hk
    obtain ⟨S, hS⟩ : ∃ S, S = (if partE x.p x.n = 0 then partF l x.p x.n else []) := ⟨_, rfl⟩
    have hSl : S.length ≤ 1000 := by
      rw [hS]
      split
      · exact Nat.le_trans (part_len _ _ _) (by omega)
      · exact Nat.zero_le _
    have h1 := refPart_spec hI x.p x.n
    have h2 := part_spec gt gm hT hI x.p x.n
    rw [← hS] at h1 h2
    repeat(first|refine Sc ?_|refine fun(_:Nat)=>?_)
    refine ACallT.ok (ACall.ret h1 ?_)
    repeat(first|refine Sc ?_|refine fun(_:Nat)=>?_)
    refine ACallT.ok (ACall.sel [0, 1] (by decide) [.ptr 0 gt 0, .str x.p, .int .i64 x.n] _ ⟨Sub.refl _, Sub.refl _, Sub.refl _, trivial⟩ h2 ?_)
    rintro r L' ⟨rfl, rfl⟩
    refine ⟨_, Sub.refl _, ?_⟩
    repeat(first|refine Sc ?_|refine fun(_:Nat)=>?_)
    refine Run.drawnK C_ok (aopC_sound C_ok) [4] [0, 1, 2, 4, 3, 5, 6, 7, 8, 9, 10, 11, 12, 13] (by kernel_rfl) ?_
    repeat(first|refine Sc ?_|refine fun(_:Nat)=>?_)
    refine ACallT.ok (ACall.ret (num_spec (partE x.p x.n)) ?_)
    repeat(first|refine Sc ?_|refine fun(_:Nat)=>?_)
    refine ⟨fun _ => ?_, fun h => absurd rfl h⟩
    repeat(first|refine Sc ?_|refine fun(_:Nat)=>?_)
    refine ACallT.ok (ACall.ret (seen_same S hSl) ?_)
    repeat(first|refine Sc ?_|refine fun(_:Nat)=>?_)
    exact ⟨.tuple [.ptr 0 gt 0, .agg [rdX l], .bool true], _, FinOk.keep _ [0, 1, 2, 3] (Sub.tuples ⟨Sub.ptr _ _ _ _, Sub.refl _, Sub.refl _, trivial⟩) (by decide) rfl, gt, gm, _, es, cl, v, g, o, ys, hT, hI, hv, rfl, rfl⟩
  have hk3 : ¬ x.k = 3 := hk
  repeat(first|refine Sc ?_|refine fun(_:Nat)=>?_)
  refine ⟨fun hk => ?_, fun hk => ?_⟩
  · have hk : x.k = 4 := hk
    repeat(first|refine Sc ?_|refine fun(_:Nat)=>?_)
    refine ACallT.ok (ACall.sel [0, 1] (by decide) [.ptr 0 gt 0] _ (.one (Sub.refl _)) (nodes_spec gt gm hT hI) ?_)
    rintro r L' ⟨gn, Cn, rfl, rfl⟩
    refine ⟨.sl 7 gn Cn l.length, Sub.sl _ _ _ _ _, ?_⟩
    repeat(first|refine Sc ?_|refine fun(_:Nat)=>?_)
    refine Run.drawnK C_ok (aopC_sound C_ok) [4] [0, 1, 2, 3, 4, 5, 6, 7, 8] (by kernel_rfl) ?_
    repeat(first|refine Sc ?_|refine fun(_:Nat)=>?_)
    refine ACallT.ok (ACall.ret (refNodes_spec l (by omega)) ?_)
    repeat(first|refine Sc ?_|refine fun(_:Nat)=>?_)
    refine ACallT.ok (ACall.ret_lend (.two (.row 7 gn Cn _ tX 7 _ rfl (by simp)) (.same _)) (fulls_same l (by omega)) rfl ?_)
    repeat(first|refine Sc ?_|refine fun(_:Nat)=>?_)
    exact ⟨.tuple [.ptr 0 gt 0, .agg [rdX l], .bool true], _, FinOk.keep _ [0, 1, 2, 3] (Sub.tuples ⟨Sub.ptr _ _ _ _, Sub.refl _, Sub.refl _, trivial⟩) (by decide) rfl, gt, gm, _, es, cl, v, g, o, ys, hT, hI, hv, rfl, rfl⟩
  have hk4 : ¬ x.k = 4 := hk
  repeat(first|refine Sc ?_|refine fun(_:Nat)=>?_)
  refine ⟨fun hk => ?_, fun hk => ?_⟩
  · have hk : x.k = 5 := hk
    repeat(first|refine Sz ?_|refine fun(_:Nat)=>?_)
    refine CallZ.plain (ACallT.ok (ACall.sel [0, 1] (by decide) [.ptr 0 gt 0] _ (.one (Sub.refl _)) (nodes_spec gt gm hT hI) ?_))
    rintro r L' ⟨gn, Cn, rfl, rfl⟩
    refine ⟨.sl 7 gn Cn l.length, Sub.sl _ _ _ _ _, ?_⟩
    have hld := load_spec l l.length (Nat.le_refl _)
    have hld2 := refLoad_spec l l.length (Nat.le_refl _)
    rw [List.take_length] at hld hld2
    rw [hI.loadE, if_pos rfl] at hld2
    repeat(first|refine Sz ?_|refine fun(_:Nat)=>?_)
    refine CallZ.frz [7] [0, 1, 2, 3, 4, 5, 6] (by kernel_rfl) [rdX l] ⟨.row 7 gn Cn _ tX 7 _ rfl (by simp), trivial⟩ (ACall.pure _ hld ?_)
    rintro r L' (⟨_, _, gu, gmu, esu, clu, hTu, rfl, rfl⟩ | ⟨h, _, _⟩)
    rotate_left
    · exact absurd hI.loadE h
    refine ⟨.tuple [.ptr 8 gu 0, .int .i64 0], Sub.tuples ⟨Sub.ptr _ _ _ _, Sub.refl _, trivial⟩, ?_⟩
    repeat(first|refine Sz ?_|refine fun(_:Nat)=>?_)
    refine CallZ.plain (ACallT.ok (ACall.ret (refNodes_spec l (by omega)) ?_))
    repeat(first|refine Sz ?_|refine fun(_:Nat)=>?_)
    refine CallZ.plain (ACallT.ok (ACall.ret hld2 ?_))
    repeat(first|refine Sz ?_|refine fun(_:Nat)=>?_)
    rename_i g29
    refine CallZ.plain (ACallT.ok (ACall.ret (num_spec 0) ?_))
    repeat(first|refine Sz ?_|refine fun(_:Nat)=>?_)
    refine ⟨fun h => absurd rfl h, fun _ => ?_⟩
    repeat(first|refine Sz ?_|refine fun(_:Nat)=>?_)
    refine ⟨fun h => absurd rfl h, fun _ => ?_⟩
    repeat(first|refine Sz ?_|refine fun(_:Nat)=>?_)
    refine ⟨fun h => absurd rfl h, fun _ => ?_⟩
    repeat(first|refine Sz ?_|refine fun(_:Nat)=>?_)
    refine Run.drawnK C_ok (aopC_sound C_ok) [4] [0, 1, 2, 3, 4] (by kernel_rfl) ?_
    repeat(first|refine Sz ?_|refine fun(_:Nat)=>?_)
    exact ⟨.tuple [.ptr 0 gu 0, .agg [rdX l], .bool true], _, FinOk.keep _ [8, 9, 2, 3] (Sub.tuples ⟨Sub.ptr _ _ _ _, Sub.refl _, Sub.refl _, trivial⟩) (by decide) rfl, gu, gmu, l, esu, clu, v, g, o, ys, hTu, hI, hv, rfl, rfl⟩
  repeat(first|refine Sc ?_|refine fun(_:Nat)=>?_)
  refine Run.drawnK C_ok (aopC_sound C_ok) [4] [0, 1, 2, 3, 4] (by kernel_rfl) ?_
  repeat(first|refine Sc ?_|refine fun(_:Nat)=>?_)
  exact ⟨.tuple [.ptr 0 gt 0, .agg [rdX l], .bool true], _, FinOk.keep _ [0, 1, 2, 3] (Sub.tuples ⟨Sub.ptr _ _ _ _, Sub.refl _, Sub.refl _, trivial⟩) (by decide) rfl, gt, gm, l, es, cl, v, g, o, ys, hT, hI, hv, rfl, rfl⟩
end Go.Proofs.YtiikjcdjgmlcgaaGreatDoor.HBT
