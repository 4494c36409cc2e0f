/- The trees that requests can make: grown. -/
import Derived.Test.YtcbjcmigecocgaaGreatDoorTwS1
set_option linter.unusedVariables false
set_option linter.unusedSimpArgs false
namespace Go.Proofs.YtcbjcmigecocgaaGreatDoor.HBT
open Go Go.Proofs.YtcbjcmigecocgaaGreatDoor.HB Go.RowKit
set_option maxRecDepth 8000

structure Trn where
  s : Int
  e : Bool
  ops : List Opp
  no : Nat
abbrev encTn (x : Trn) : AV := .agg [.int .i64 x.s, .bool x.e, .ro 5 (x.ops.map encO) x.no]
abbrev rdTn (xs : List Trn) (n : Nat) : AV := .ro 3 (xs.map encTn) n
def GrownQ : AV → AHeap → Prop := fun r L' => ∃ gt gm es cl l, TM l es cl ∧ TInv l ∧ r = .tuple [.ptr 0 gt 0, .agg [rdX l]] ∧ L' = TreeL gt gm es cl
set_option maxHeartbeats 8000000 in
theorem grown_spec (xs : List Trn) (n : Nat) (hn : n ≤ xs.length) (hok : ∀ x ∈ xs, x.no ≤ x.ops.length) : FnSpec C 4 [rdTn xs n] [] GrownQ := by
  refine FnSpec.start C_ok Tryz.func4 rfl rfl Tryz.ntmps4 ?_
  repeat(first|refine Sc ?_|refine fun(_:Nat)=>?_)
  rename_i g3
  refine ACallT.ok (ACall.pure _ new_spec ?_)
  rintro r L' ⟨gt, gm, es, cl, hT, rfl, rfl⟩
  refine ⟨.ptr 1 gt 0, Sub.ptr _ _ _ _, ?_⟩
  repeat(first|refine Sc ?_|refine fun(_:Nat)=>?_)
  refine ACallT.ok (ACall.ret refNew_spec ?_)
  repeat(first|refine Sc ?_|refine fun(_:Nat)=>?_)
  rename_i g5
  refine Run.loopW (fun k env L => ∃ (i : Nat) (gm : Nat) (l : List Fu) (es : Array MapEntry) (cl : Nat), k = 41 - i ∧ i ≤ 40 ∧ TM l es cl ∧ TInv l ∧ env = [rdTn xs n, .junk, .junk, .ptr 2 g3 0, .ptr 0 gt 0, .ptr 3 g5 0, .int .i64 i, .junk, .junk, .junk, .junk, .junk, .junk, .junk, .junk, .junk, .junk, .junk, .junk, .junk, .junk, .junk, .junk, .junk, .junk, .junk, .junk, .junk, .junk, .junk, .junk, .junk, .junk, .junk, .junk, .junk, .junk, .junk, .junk, .junk, .junk, .junk, .junk, .junk, .junk, .junk, .junk, .junk, .junk, .junk, .junk, .junk, .junk, .junk, .junk, .junk, .junk, .junk, .junk, .junk, .junk, .junk, .junk, .junk, .junk, .junk, .junk, .junk, .junk, .junk] ∧ L = [(gt, .cells tT [.any (.map (some gm))]), (gm, .obj (.map es cl)), (g3, .cells tV [.nils]), (g5, .cells tV [rdX l])]) 41
    [rdTn xs n, .junk, .junk, .ptr 2 g3 0, .ptr 0 gt 0, .ptr 3 g5 0, .int .i64 (0 : Nat), .junk, .junk, .junk, .junk, .junk, .junk, .junk, .junk, .junk, .junk, .junk, .junk, .junk, .junk, .junk, .junk, .junk, .junk, .junk, .junk, .junk, .junk, .junk, .junk, .junk, .junk, .junk, .junk, .junk, .junk, .junk, .junk, .junk, .junk, .junk, .junk, .junk, .junk, .junk, .junk, .junk, .junk, .junk, .junk, .junk, .junk, .junk, .junk, .junk, .junk, .junk, .junk, .junk, .junk, .junk, .junk, .junk, .junk, .junk, .junk, .junk, .junk, .junk] [(gt, .cells tT [.any (.map (some gm))]), (gm, .obj (.map es cl)), (g3, .cells tV [.nils]), (g5, .cells tV [rdX [rootF]])] (Weak.sel ?_ [1, 2, 0, 3] (by decide) ?_) ⟨0, gm, [rootF], es, cl, by omega, by omega, hT, TInv.new, rfl, rfl⟩ ?_
  · exact Ss
  · exact Sl
  rintro k env L ⟨i, gm, l, es, cl, rfl, hi, hT, hI, rfl, rfl⟩
  repeat(first|refine Sc ?_|refine fun(_:Nat)=>?_)
  refine ⟨fun h => ?_, fun h => ?_⟩
  rotate_left
  · repeat(first|refine Sc ?_|refine fun(_:Nat)=>?_)
    refine Run.drawnK C_ok (aopC_sound C_ok) [3] [0, 1, 2, 3] (by kernel_rfl) ?_
    repeat(first|refine Sc ?_|refine fun(_:Nat)=>?_)
    exact ⟨.tuple [.ptr 0 gt 0, .agg [rdX l]], _, FinOk.keep _ [0, 1] (Sub.tuples ⟨Sub.ptr _ _ _ _, Sub.refl _, trivial⟩) (by decide) rfl, gt, gm, es, cl, l, hT, hI, rfl, rfl⟩
  have h : (i : Int) < (n : Int) := h
  repeat(first|refine Sc ?_|refine fun(_:Nat)=>?_)
  refine ⟨fun h2 => ?_, fun h2 => ?_⟩
  rotate_left
  · repeat(first|refine Sc ?_|refine fun(_:Nat)=>?_)
    refine Run.drawnK C_ok (aopC_sound C_ok) [3] [0, 1, 2, 3] (by kernel_rfl) ?_
    repeat(first|refine Sc ?_|refine fun(_:Nat)=>?_)
    exact ⟨.tuple [.ptr 0 gt 0, .agg [rdX l]], _, FinOk.keep _ [0, 1] (Sub.tuples ⟨Sub.ptr _ _ _ _, Sub.refl _, trivial⟩) (by decide) rfl, gt, gm, es, cl, l, hT, hI, rfl, rfl⟩
  have h2 : (i : Int) < 40 := h2
  obtain ⟨x, ex⟩ : ∃ x, xs[i]? = some x := ⟨_, List.getElem?_eq_getElem (by omega)⟩
  have hx := hok x (List.mem_of_getElem? ex)
  have hl := hI.len
  obtain ⟨s, e, ops, no⟩ := x
  repeat(first|refine Sc ?_|refine fun(_:Nat)=>?_)
  refine ⟨h, encTn ⟨s, e, ops, no⟩, map_at encTn ex, ?_⟩
  cases e with
  | true =>
    repeat(first|refine Sc ?_|refine fun(_:Nat)=>?_)
    rename_i g7
    refine ACallT.ok (ACall.sel [0, 1] (by decide) [.ptr 0 gt 0, .int .i64 s] _ (.two (Sub.refl _) (Sub.refl _)) (end_spec gt gm hT hI s) ?_)
    rintro r L' ⟨es2, cl2, hT2, rfl, rfl⟩
    refine ⟨_, Sub.refl _, ?_⟩
    repeat(first|refine Sc ?_|refine fun(_:Nat)=>?_)
    refine ACallT.ok (ACall.ret (refEnd_spec l (by omega) s) ?_)
    repeat(first|refine Sc ?_|refine fun(_:Nat)=>?_)
    rename_i g8
    refine fun r hr => ?_
    obtain rfl := add1 hr (by omega)
    repeat(first|refine Sc ?_|refine fun(_:Nat)=>?_)
    refine Cont.lpW ?_
    refine ⟨41 - (i + 1), _, _, by omega, Weak.sel ?_ [0, 1, 2, 3] (by decide) ?_, ⟨i + 1, gm, (endF l s).1, es2, cl2, rfl, by omega, hT2, endF_inv hI, rfl, rfl⟩⟩
    · exact Ss
    · exact Sl
  | false =>
    repeat(first|refine Sc ?_|refine fun(_:Nat)=>?_)
    rename_i g7
    refine ⟨fun h6 => ?_, fun h6 => ?_⟩
    · have h6 : (no : Int) ≤ 6 := h6
      repeat(first|refine Sc ?_|refine fun(_:Nat)=>?_)
      refine fun r hr => ?_
      obtain rfl := add1 hr (by omega)
      repeat(first|refine Sc ?_|refine fun(_:Nat)=>?_)
      refine ACallT.ok (ACall.sel [0, 1] (by decide) [.ptr 0 gt 0, .int .i64 s, .int .i64 ((i + 1 : Nat) : Int), .ro 5 (ops.map encO) no] _ ⟨Sub.refl _, Sub.refl _, Sub.refl _, Sub.refl _, trivial⟩ (play_spec gt gm hT hI s ((i + 1 : Nat) : Int) ops no hx) ?_)
      rintro r L' ⟨gm2, es2, cl2, hT2, rfl, rfl⟩
      refine ⟨_, Sub.refl _, ?_⟩
      repeat(first|refine Sc ?_|refine fun(_:Nat)=>?_)
      refine fun r hr => ?_
      obtain rfl := add1 hr (by omega)
      repeat(first|refine Sc ?_|refine fun(_:Nat)=>?_)
      refine ACallT.ok (ACall.ret (refPlay_spec hI s ((i + 1 : Nat) : Int) ops no hx) ?_)
      repeat(first|refine Sc ?_|refine fun(_:Nat)=>?_)
      rename_i g10 g11
      refine fun r hr => ?_
      obtain rfl := add1 hr (by omega)
      repeat(first|refine Sc ?_|refine fun(_:Nat)=>?_)
      refine Cont.lpW ?_
      refine ⟨41 - (i + 1), _, _, by omega, Weak.sel ?_ [0, 1, 2, 3] (by decide) ?_, ⟨i + 1, gm2, (playR l s ((i + 1 : Nat) : Int) (ops.take no)).1, es2, cl2, rfl, by omega, hT2, playR_inv hI, rfl, rfl⟩⟩
      · exact Ss
      · exact Sl
    · have h6 : ¬ (no : Int) ≤ 6 := h6
      repeat(first|refine Sc ?_|refine fun(_:Nat)=>?_)
      refine fun r hr => ?_
      obtain rfl := add1 hr (by omega)
      repeat(first|refine Sc ?_|refine fun(_:Nat)=>?_)
      refine Cont.lpW ?_
      refine ⟨41 - (i + 1), _, _, by omega, Weak.sel ?_ [0, 1, 2, 3] (by decide) ?_, ⟨i + 1, gm, l, es, cl, rfl, by omega, hT, hI, rfl, rfl⟩⟩
      · exact Ss
      · exact Sl
end Go.Proofs.YtcbjcmigecocgaaGreatDoor.HBT
