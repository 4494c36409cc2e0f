/- The laws TreePlays, TreeEnds, TreeParts, TreeNodes, TreeGoes, walked. -/
import Derived.Test.YtiikjcdjgmlcgaaGreatDoorTzU12
set_option linter.unusedVariables false
set_option linter.unusedSimpArgs false
namespace Go.Proofs.YtiikjcdjgmlcgaaGreatDoor.HBT
open Go Go.Proofs.YtiikjcdjgmlcgaaGreatDoor.HB Go.RowKit
set_option maxRecDepth 8000

theorem lawPlays_spec (xs : List Stp) (n : Nat) (hn : n ≤ xs.length) (hok : ∀ x ∈ xs, x.fit) : FnSpec C 7 [rdS xs n] [] (fun r L' => r = .bool true ∧ L' = []) := by
  refine FnSpec.start C_ok Tryz.func7 rfl rfl Tryz.ntmps7 ?_
  repeat(first|refine Sc ?_|refine fun(_:Nat)=>?_)
  refine ACallT.ok (ACall.ret (only_spec xs n hn hok 1) ?_)
  repeat(first|refine Sc ?_|refine fun(_:Nat)=>?_)
  exact ⟨_, [], FinOk.drop _ _, rfl, rfl⟩
theorem lawEnds_spec (xs : List Stp) (n : Nat) (hn : n ≤ xs.length) (hok : ∀ x ∈ xs, x.fit) : FnSpec C 8 [rdS xs n] [] (fun r L' => r = .bool true ∧ L' = []) := by
  refine FnSpec.start C_ok Tryz.func8 rfl rfl Tryz.ntmps8 ?_
  repeat(first|refine Sc ?_|refine fun(_:Nat)=>?_)
  refine ACallT.ok (ACall.ret (only_spec xs n hn hok 2) ?_)
  repeat(first|refine Sc ?_|refine fun(_:Nat)=>?_)
  exact ⟨_, [], FinOk.drop _ _, rfl, rfl⟩
theorem lawParts_spec (xs : List Stp) (n : Nat) (hn : n ≤ xs.length) (hok : ∀ x ∈ xs, x.fit) : FnSpec C 9 [rdS xs n] [] (fun r L' => r = .bool true ∧ L' = []) := by
  refine FnSpec.start C_ok Tryz.func9 rfl rfl Tryz.ntmps9 ?_
  repeat(first|refine Sc ?_|refine fun(_:Nat)=>?_)
  refine ACallT.ok (ACall.ret (only_spec xs n hn hok 3) ?_)
  repeat(first|refine Sc ?_|refine fun(_:Nat)=>?_)
  exact ⟨_, [], FinOk.drop _ _, rfl, rfl⟩
theorem lawNodes_spec (xs : List Stp) (n : Nat) (hn : n ≤ xs.length) (hok : ∀ x ∈ xs, x.fit) : FnSpec C 10 [rdS xs n] [] (fun r L' => r = .bool true ∧ L' = []) := by
  refine FnSpec.start C_ok Tryz.func10 rfl rfl Tryz.ntmps10 ?_
  repeat(first|refine Sc ?_|refine fun(_:Nat)=>?_)
  refine ACallT.ok (ACall.ret (only_spec xs n hn hok 4) ?_)
  repeat(first|refine Sc ?_|refine fun(_:Nat)=>?_)
  exact ⟨_, [], FinOk.drop _ _, rfl, rfl⟩
theorem lawGoes_spec (xs : List Stp) (n : Nat) (hn : n ≤ xs.length) (hok : ∀ x ∈ xs, x.fit) : FnSpec C 11 [rdS xs n] [] (fun r L' => r = .bool true ∧ L' = []) := by
  refine FnSpec.start C_ok Tryz.func11 rfl rfl Tryz.ntmps11 ?_
  repeat(first|refine Sc ?_|refine fun(_:Nat)=>?_)
  refine ACallT.ok (ACall.ret (only_spec xs n hn hok 0) ?_)
  repeat(first|refine Sc ?_|refine fun(_:Nat)=>?_)
  exact ⟨_, [], FinOk.drop _ _, rfl, rfl⟩
end Go.Proofs.YtiikjcdjgmlcgaaGreatDoor.HBT
