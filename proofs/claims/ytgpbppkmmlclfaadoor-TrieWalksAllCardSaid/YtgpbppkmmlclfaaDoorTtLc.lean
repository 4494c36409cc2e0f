/- Proved: the law TrieWalksAll returns true for every input, and its argument reads behind the call as it read before; what the row lists is tied to the program's text. Conditions: none beside the card's own. -/
import Derived.Test.YtgpbppkmmlclfaaDoorTtKd
import Derived.Test.YtgpbppkmmlclfaaDoorTtKx
import Derived.Test.YtgpbppkmmlclfaaDoorCards
import Derived.Test.YtgpbppkmmlclfaaDoorTie
import Derived.SevenTiedAt
set_option linter.unusedVariables false
set_option linter.unusedSimpArgs false
namespace Go.Proofs.YtgpbppkmmlclfaaDoor.HBT
open Go Go.Proofs.YtgpbppkmmlclfaaDoor.HB Go.Proofs.YtgpbppkmmlclfaaDoor Go.ChangeShapes Go.WideShapes Go.ChangeAt Go.RowKit Go.Lib
set_option maxRecDepth 8000

set_option maxRecDepth 100000 in
theorem walksAll_lifted (os : Os) (started : os.Started) (H : Type) (enc : TypeId × Value → H) :
    ReturnsInHanded {} Tryd.checked os 4 .any (fun w args => (Rows.trieWalksAllSpec.pre enc Tryd.prog Tryd.f4 [] false w args ∧ laidMetH Tryd.prog laid w) ∧ sizedMet enc Tryd.prog Tryd.f4 (OpenSpec.ofChange Rows.trieWalksAllSpec) false w args)
      (Rows.trieWalksAllSpec.post enc Tryd.prog Tryd.f4 false true false false) := by
  refine returns_and_shaped (C := Tryd.checked) (X := fun w _ => laidMetH Tryd.prog laid w) (fun _ _ _ hh h => h.of_heap hh) own started (by kernel_rfl) Tryd.func4
    (ChangeSpec.witness_shaped (enc := enc) (C := Tryd.checked) (os := os) (X := fun w _ => laidMetH Tryd.prog laid w) false (World.laidAll Tryd.prog os laid) #[.slice none 0 0, .int .i64 0, .agg #[.int .i64 0, .string ⟨#[]⟩, .string ⟨#[]⟩, .int .i64 0]] 8 (World.laidAll_os _ _ _)
      (door_shape os _) (by kernel_rfl) (by kernel_rfl) (by kernel_rfl) (door_met os _)) ?_
  intro W base args ds gs before hval hW hL hs
  refine law_contract (C := C) (tb := 4) 8 laidOut (by kernel_rfl) (by kernel_rfl) (by kernel_rfl) Tryd.underlying4 ?_ ?_ ?_ (G_of hL hs) hval hW
  · intro W W' gs q _ h
    cases gs with
    | nil => exact h
    | cons => exact h.elim
  · intro ds gs hd hg
    match ds, gs, hd, hg with
    | [d1, d2, d3], [], _, _ => exact ⟨rfl, rfl, rfl⟩
  · intro xs hxs
    have hxs : ArgsOk Tryd.prog [22, 3, 24] xs := hxs
    cases hxs with
    | cons h1 h =>
      cases h with
      | cons h2 h =>
        cases h with
        | cons h3 h =>
          cases h
          obtain ⟨xs, n, hn, rfl⟩ := seats_arg h1
          obtain ⟨s, rfl⟩ := int_arg h2
          obtain ⟨k, p, d, v, rfl⟩ := change_arg h3
          exact walks_law xs n hn s k p d v

theorem walksAll_row : Rows.TrieWalksAllSaid :=
  OpenClaim.holds_of_wide 4 Tryd.f4 rfl rfl rfl rfl rfl rfl rfl ⟨rfl, rfl, rfl, rfl, rfl⟩ rfl rfl rfl rfl rfl (by kernel_rfl) Tryd.func4 (by kernel_rfl)
    (of_decide_eq_true (by kernel_rfl)) (by unfold Func.isWrapper; rw [if_neg (by decide +kernel)]; exact ⟨rfl, rfl⟩)
    (fun os started H enc _ => walksAll_lifted os started H enc)

theorem walksAll_holds : Rows.TrieWalksAllCardSaid :=
  Claim7.holds_tied_plain_at .later [] [.data, .data, .pinned] true (true, "ddf2bbacf0a22825a4cf8bed885d5931e4172f18fff5c08a16014eb7b79f8de2") false
    walksAll_row (fun _ h => by cases h) (by kernel_rfl) (fun _ h => by cases h) trieWalksAll_row_tie rfl ⟨rfl, rfl⟩ (by kernel_rfl) rfl
    (fun f fn hf hfn => by
      obtain rfl : f = 4 := Option.some.inj ((show Tryd.prog.funcNamed "herald/heraldlaw9.TrieWalksAll" = some 4 by kernel_rfl).symm.trans hf) |>.symm
      obtain rfl : fn = Tryd.f4 := (Option.some.inj (Tryd.func4.symm.trans hfn)).symm
      exact ⟨by kernel_rfl, fun j t ht => by
        rw [Tryd.params4] at ht
        have hm : t ∈ [22, 3, 24] := by simpa using Array.mem_of_getElem? ht
        have hall : ([22, 3, 24].all fun u => !Tryd.prog.wantsStandIn u) = true := by kernel_rfl
        exact (show Tryd.prog.wantsStandIn t = false by simpa using List.all_eq_true.1 hall t hm)⟩)
    (by kernel_rfl)

end Go.Proofs.YtgpbppkmmlclfaaDoor.HBT
