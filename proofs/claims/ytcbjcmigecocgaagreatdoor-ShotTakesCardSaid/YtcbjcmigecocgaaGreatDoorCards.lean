/-
  DERIVED. GIVEN WITH THE SEED: THE CARDS: each row of YtcbjcmigecocgaaGreatDoorRows.lean that lists a variable, with what it lists TIED to the program's text (the seventh form; the later family's looks); each row that meets fmt, with fmt's text TOLD by the authors' own Lean function (tested against real Go, not proved from fmt's source: count such statements apart). THE CARD IS WHAT COUNTS. Prove the row's statement (the work); the ties are given (YtcbjcmigecocgaaGreatDoorTie.lean); close each card by the builder's one call (the guide's Derived/Test/ToyasCard.lean, 'card_holds'). Laid BY PROGRAM, IN A SANDBOX (cutbox-door.mjs). By AI agents, Wed Nov 11 2026. No macro, syntax, notation, axiom, sorry.
-/
import Derived.Test.YtcbjcmigecocgaaGreatDoorRows
import GoSem.ClaimSeven
namespace Go.Proofs.YtcbjcmigecocgaaGreatDoor
namespace Rows

/-- THE TIED CARD OF 'heraldlaw5.ShotTakes'. -/
def shotTakesCard : Claim7 := { stood := { row := shotTakesRow, standIns := [], harness := (true, "3d4453ce097f26706885064aedad629455c6e348a93b994e281686919b5b313c"), looks := true }, kinds := [], alts := [], laidByText := true, laidKinds := [.data, .data, .data, .data, .data, .pinned], laidTests := true, laidLooks := .later }
def ShotTakesCardSaid : Prop := Claim7.holds Tryz.pinned (.plain (OpenSpec.ofChange shotTakesSpec)) shotTakesCard

/-- THE SECOND FORM's CARD OF 'heraldlaw5.ShotTakes'. -/
def shotTakesUptoCard : Claim7 := { stood := { row := shotTakesUptoRow, standIns := [], harness := (true, "3d4453ce097f26706885064aedad629455c6e348a93b994e281686919b5b313c"), looks := true }, kinds := [], alts := [], laidByText := true, laidKinds := [.data, .data, .data, .data, .data, .pinned], laidTests := true, laidLooks := .later }
def ShotTakesUptoCardSaid : Prop := Claim7.holds Tryz.pinned (.plain (OpenSpec.upto shotTakesSpec)) shotTakesUptoCard
end Rows
end Go.Proofs.YtcbjcmigecocgaaGreatDoor
