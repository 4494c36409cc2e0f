/- A nil and a zero tree: Play, End, Part, Nodes. -/
import Derived.Test.YtiikjcdjgmlcgaaGreatDoorTzT10
import Derived.Test.YtiikjcdjgmlcgaaGreatDoorTzT52
set_option linter.unusedVariables false
set_option linter.unusedSimpArgs false
namespace Go.Proofs.YtiikjcdjgmlcgaaGreatDoor.HBT
open Go Go.Proofs.YtiikjcdjgmlcgaaGreatDoor.HB Go.RowKit
set_option maxRecDepth 8000

abbrev zeroT (gt : Nat) : AHeap := [(gt, .cells tT [.any (.map none)])]
theorem play_nil (s st : Int) : FnSpec C 19 [.nilp, .int .i64 s, .int .i64 st, .junk] [] (fun r L' => r = .tuple [encP ⟨st, 1, 0, []⟩, encCs []] ∧ L' = []) := by
  refine FnSpec.start C_ok Tryz.func19 rfl rfl Tryz.ntmps19 ?_
  repeat(first|refine Sc ?_|refine fun(_:Nat)=>?_)
  rename_i gs gr
  refine ACallT.ok (ACall.sel [] (by decide) [.nilp] _ (.one (Sub.refl _)) none_nil ?_)
  rintro r L' ⟨rfl, rfl⟩
  refine ⟨.bool true, Sub.refl _, ?_⟩
  repeat(first|refine Sc ?_|refine fun(_:Nat)=>?_)
  refine ⟨[.ptr 0 gs 0], rfl, ?_⟩
  refine ACall.sel [0] (by decide) [.int .i64 1, .int .i64 0, .ptr 0 gs 0] _ (.three (Sub.refl _) (Sub.refl _) (Sub.ptr _ _ _ _)) (refused_spec gs st 1 0) ?_
  rintro r L' ⟨rfl, rfl⟩
  refine ⟨_, Sub.refl _, ?_⟩
  repeat(first|refine Sc ?_|refine fun(_:Nat)=>?_)
  exact ⟨.tuple [encP ⟨st, 1, 0, []⟩, encCs []], _, FinOk.keep _ [] (subP st 1 0) (by decide) rfl, rfl, rfl⟩
theorem end_nil (s : Int) : FnSpec C 22 [.nilp, .int .i64 s] [] (fun r L' => r = encCs [] ∧ L' = []) := by
  refine FnSpec.start C_ok Tryz.func22 rfl rfl Tryz.ntmps22 ?_
  repeat(first|refine Sc ?_|refine fun(_:Nat)=>?_)
  refine ACallT.ok (ACall.sel [] (by decide) [.nilp] _ (.one (Sub.refl _)) none_nil ?_)
  rintro r L' ⟨rfl, rfl⟩
  refine ⟨.bool true, Sub.refl _, ?_⟩
  repeat(first|refine Sc ?_|refine fun(_:Nat)=>?_)
  exact ⟨encCs [], _, FinOk.keep _ [] (Sub.nilsRo 4) (by decide) rfl, rfl, rfl⟩
theorem part_nil (a : ByteArray) (kd : Int) : FnSpec C 25 [.nilp, .str a, .int .i64 kd] [] (fun r L' => r = .tuple [encNs [], .int .i64 1] ∧ L' = []) := by
  refine FnSpec.start C_ok Tryz.func25 rfl rfl Tryz.ntmps25 ?_
  repeat(first|refine Sc ?_|refine fun(_:Nat)=>?_)
  refine ACallT.ok (ACall.sel [] (by decide) [.nilp] _ (.one (Sub.refl _)) none_nil ?_)
  rintro r L' ⟨rfl, rfl⟩
  refine ⟨.bool true, Sub.refl _, ?_⟩
  repeat(first|refine Sc ?_|refine fun(_:Nat)=>?_)
  exact ⟨.tuple [encNs [], .int .i64 1], _, FinOk.keep _ [] (Sub.tuples ⟨Sub.nilsRo 3, Sub.refl _, trivial⟩) (by decide) rfl, rfl, rfl⟩
theorem nodes_nil : FnSpec C 17 [.nilp] [] (fun r L' => r = rdX [] ∧ L' = []) := by
  refine FnSpec.start C_ok Tryz.func17 rfl rfl Tryz.ntmps17 ?_
  repeat(first|refine Sc ?_|refine fun(_:Nat)=>?_)
  refine ACallT.ok (ACall.sel [] (by decide) [.nilp] _ (.one (Sub.refl _)) none_nil ?_)
  rintro r L' ⟨rfl, rfl⟩
  refine ⟨.bool true, Sub.refl _, ?_⟩
  repeat(first|refine Sc ?_|refine fun(_:Nat)=>?_)
  exact ⟨rdX [], _, FinOk.keep _ [] (Sub.nilsRo 7) (by decide) rfl, rfl, rfl⟩
theorem play_zero (gt : Nat) (s st : Int) : FnSpec C 19 [.ptr 0 gt 0, .int .i64 s, .int .i64 st, .junk] (zeroT gt) (fun r L' => r = .tuple [encP ⟨st, 1, 0, []⟩, encCs []] ∧ L' = (zeroT gt)) := by
  refine FnSpec.start C_ok Tryz.func19 rfl rfl Tryz.ntmps19 ?_
  repeat(first|refine Sc ?_|refine fun(_:Nat)=>?_)
  rename_i gs gr
  refine ACallT.ok (ACall.sel [0] (by decide) [.ptr 0 gt 0] _ (.one (Sub.refl _)) (none_spec gt none) ?_)
  rintro r L' ⟨rfl, rfl⟩
  refine ⟨.bool true, Sub.refl _, ?_⟩
  repeat(first|refine Sc ?_|refine fun(_:Nat)=>?_)
  refine ⟨[.ptr 1 gs 0], rfl, ?_⟩
  refine ACall.sel [1] (by decide) [.int .i64 1, .int .i64 0, .ptr 0 gs 0] _ (.three (Sub.refl _) (Sub.refl _) (Sub.ptr _ _ _ _)) (refused_spec gs st 1 0) ?_
  rintro r L' ⟨rfl, rfl⟩
  refine ⟨_, Sub.refl _, ?_⟩
  repeat(first|refine Sc ?_|refine fun(_:Nat)=>?_)
  exact ⟨.tuple [encP ⟨st, 1, 0, []⟩, encCs []], _, FinOk.keep _ [0] (subP st 1 0) (by decide) rfl, rfl, rfl⟩
theorem end_zero (gt : Nat) (s : Int) : FnSpec C 22 [.ptr 0 gt 0, .int .i64 s] (zeroT gt) (fun r L' => r = encCs [] ∧ L' = (zeroT gt)) := by
  refine FnSpec.start C_ok Tryz.func22 rfl rfl Tryz.ntmps22 ?_
  repeat(first|refine Sc ?_|refine fun(_:Nat)=>?_)
  refine ACallT.ok (ACall.sel [0] (by decide) [.ptr 0 gt 0] _ (.one (Sub.refl _)) (none_spec gt none) ?_)
  rintro r L' ⟨rfl, rfl⟩
  refine ⟨.bool true, Sub.refl _, ?_⟩
  repeat(first|refine Sc ?_|refine fun(_:Nat)=>?_)
  exact ⟨encCs [], _, FinOk.keep _ [0] (Sub.nilsRo 4) (by decide) rfl, rfl, rfl⟩
theorem part_zero (gt : Nat) (a : ByteArray) (kd : Int) : FnSpec C 25 [.ptr 0 gt 0, .str a, .int .i64 kd] (zeroT gt) (fun r L' => r = .tuple [encNs [], .int .i64 1] ∧ L' = (zeroT gt)) := by
  refine FnSpec.start C_ok Tryz.func25 rfl rfl Tryz.ntmps25 ?_
  repeat(first|refine Sc ?_|refine fun(_:Nat)=>?_)
  refine ACallT.ok (ACall.sel [0] (by decide) [.ptr 0 gt 0] _ (.one (Sub.refl _)) (none_spec gt none) ?_)
  rintro r L' ⟨rfl, rfl⟩
  refine ⟨.bool true, Sub.refl _, ?_⟩
  repeat(first|refine Sc ?_|refine fun(_:Nat)=>?_)
  exact ⟨.tuple [encNs [], .int .i64 1], _, FinOk.keep _ [0] (Sub.tuples ⟨Sub.nilsRo 3, Sub.refl _, trivial⟩) (by decide) rfl, rfl, rfl⟩
theorem nodes_zero (gt : Nat) : FnSpec C 17 [.ptr 0 gt 0] (zeroT gt) (fun r L' => r = rdX [] ∧ L' = (zeroT gt)) := by
  refine FnSpec.start C_ok Tryz.func17 rfl rfl Tryz.ntmps17 ?_
  repeat(first|refine Sc ?_|refine fun(_:Nat)=>?_)
  refine ACallT.ok (ACall.sel [0] (by decide) [.ptr 0 gt 0] _ (.one (Sub.refl _)) (none_spec gt none) ?_)
  rintro r L' ⟨rfl, rfl⟩
  refine ⟨.bool true, Sub.refl _, ?_⟩
  repeat(first|refine Sc ?_|refine fun(_:Nat)=>?_)
  exact ⟨rdX [], _, FinOk.keep _ [0] (Sub.nilsRo 7) (by decide) rfl, rfl, rfl⟩
end Go.Proofs.YtiikjcdjgmlcgaaGreatDoor.HBT
