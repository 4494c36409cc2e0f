/- Proved: the law TreeNothing returns true for every input, and its argument reads behind the call as it read before; what the row lists is tied to the program's text. Conditions: none beside the card's own. -/
import Derived.Test.YtiikjcdjgmlcgaaGreatDoorTzU9
import Derived.Test.YtiikjcdjgmlcgaaGreatDoorTzU15
import Derived.Test.YtiikjcdjgmlcgaaGreatDoorCards
import Derived.Test.YtiikjcdjgmlcgaaGreatDoorTie
import Derived.SevenTiedAt
set_option linter.unusedVariables false
set_option linter.unusedSimpArgs false
namespace Go.Proofs.YtiikjcdjgmlcgaaGreatDoor.HBT
open Go Go.Proofs.YtiikjcdjgmlcgaaGreatDoor.HB Go.Proofs.YtiikjcdjgmlcgaaGreatDoor Go.ChangeShapes Go.WideShapes Go.ChangeAt Go.RowKit Go.Lib
set_option maxRecDepth 8000

set_option maxRecDepth 100000 in
theorem nothing_lifted (os : Os) (started : os.Started) (H : Type) (enc : TypeId × Value → H) :
    ReturnsInHanded {} Tryz.checked os 14 .any (fun w args => (Rows.treeNothingSpec.pre enc Tryz.prog Tryz.f14 [] false w args ∧ laidMetH Tryz.prog laid w) ∧ sizedMet enc Tryz.prog Tryz.f14 (OpenSpec.ofChange Rows.treeNothingSpec) false w args)
      (Rows.treeNothingSpec.post enc Tryz.prog Tryz.f14 false true false false) := by
  refine returns_and_sized (C := Tryz.checked) (X := fun w _ => laidMetH Tryz.prog laid w) (fun _ _ _ hh h => h.of_heap hh) own started (by kernel_rfl) Tryz.func14
    (ChangeSpec.witness_shaped (enc := enc) (C := Tryz.checked) (os := os) (X := fun w _ => laidMetH Tryz.prog laid w) false (World.laidAll Tryz.prog os laid) #[.slice none 0 0] 8 (World.laidAll_os _ _ _)
      (door_shape os _) (by kernel_rfl) (by kernel_rfl) (by kernel_rfl) (door_met os _)) ?_
  intro W base args ds gs before hval hW hz hL hs
  refine law_contractZ True (C := C) (tb := 4) 8 laidOut (by kernel_rfl) (by kernel_rfl) (by kernel_rfl) Tryz.underlying4 ?_ ?_ ?_ (G_of hL hs) hval hW (fun _ => fits_front (whole_len hW) hz)
  · intro W W' gs q _ h
    cases gs with
    | nil => exact h
    | cons => exact h.elim
  · intro ds gs hd hg
    match ds, gs, hd, hg with
    | [d1], [], _, _ => exact ⟨rfl, rfl, rfl⟩
  · intro xs hxs
    have hxs : ArgsOkZ True Tryz.prog [22] xs := hxs
    cases hxs with
    | cons h1 h =>
      cases h
      obtain ⟨xs, n, hn, hok, rfl⟩ := steps_fit h1
      exact lawNothing_spec xs n hn hok

theorem nothing_row : Rows.TreeNothingSaid :=
  OpenClaim.holds_of_wide 14 Tryz.f14 rfl rfl rfl rfl rfl rfl rfl ⟨rfl, rfl, rfl, rfl, rfl⟩ rfl rfl rfl rfl rfl (by kernel_rfl) Tryz.func14 (by kernel_rfl)
    (of_decide_eq_true (by kernel_rfl)) (by unfold Func.isWrapper; rw [if_neg (by decide +kernel)]; exact ⟨rfl, rfl⟩)
    (fun os started H enc _ => nothing_lifted os started H enc)

theorem nothing_holds : Rows.TreeNothingCardSaid :=
  Claim7.holds_tied_plain_at .later [] [.data, .data, .data, .data, .data, .pinned] true (true, "a173a9eb6dc21041d37dd500cfd57f3d5f89cb1d874a3f58c76021ed9cc7ddc1") true
    nothing_row (fun _ h => by cases h) (by kernel_rfl) (fun _ h => by cases h) treeNothing_row_tie rfl ⟨rfl, rfl⟩ (by kernel_rfl) rfl
    (fun f fn hf hfn => by
      obtain rfl : f = 14 := Option.some.inj ((show Tryz.prog.funcNamed "herald/heraldlaw4.TreeNothing" = some 14 by kernel_rfl).symm.trans hf) |>.symm
      obtain rfl : fn = Tryz.f14 := (Option.some.inj (Tryz.func14.symm.trans hfn)).symm
      exact ⟨by kernel_rfl, fun j t ht => by
        rw [Tryz.params14] at ht
        have hm : t ∈ [22] := by simpa using Array.mem_of_getElem? ht
        have hall : ([22].all fun u => !Tryz.prog.wantsStandIn u) = true := by kernel_rfl
        exact (show Tryz.prog.wantsStandIn t = false by simpa using List.all_eq_true.1 hall t hm)⟩)
    (by kernel_rfl)

end Go.Proofs.YtiikjcdjgmlcgaaGreatDoor.HBT
