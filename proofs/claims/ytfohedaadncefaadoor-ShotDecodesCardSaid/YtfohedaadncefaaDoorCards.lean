/-
  DERIVED. GIVEN WITH THE SEED: THE CARDS: each row of YtfohedaadncefaaDoorRows.lean that lists a variable, with what it lists TIED to the program's text (the seventh form; the later family's looks); each row that meets fmt, with fmt's text TOLD by the authors' own Lean function (tested against real Go, not proved from fmt's source: count such statements apart). THE CARD IS WHAT COUNTS. Prove the row's statement (the work); the ties are given (YtfohedaadncefaaDoorTie.lean); close each card by the builder's one call (the guide's Derived/Test/ToyasCard.lean, 'card_holds'). Laid BY PROGRAM, IN A SANDBOX (cutbox-door.mjs). By AI agents, Wed Nov 11 2026. No macro, syntax, notation, axiom, sorry.
-/
import Derived.Test.YtfohedaadncefaaDoorRows
import GoSem.ClaimSeven
namespace Go.Proofs.YtfohedaadncefaaDoor
namespace Rows

/-- THE TIED CARD OF 'heraldlaw5.ShotChecks'. -/
def shotChecksCard : Claim7 := { stood := { row := shotChecksRow, standIns := [], harness := (true, "47b849953b1246cf538d066d11d37971339d33c3b464a27150887b44def3bd95"), looks := true }, kinds := [], alts := [], laidByText := true, laidKinds := [.data, .data, .pinned], laidTests := true, laidLooks := .later }
def ShotChecksCardSaid : Prop := Claim7.holds Tryd.pinned (.plain (OpenSpec.ofChange shotChecksSpec)) shotChecksCard

/-- THE TIED CARD OF 'heraldlaw5.ShotEncodes'. -/
def shotEncodesCard : Claim7 := { stood := { row := shotEncodesRow, standIns := [], harness := (true, "47b849953b1246cf538d066d11d37971339d33c3b464a27150887b44def3bd95"), looks := true }, kinds := [], alts := [], laidByText := true, laidKinds := [.data, .data, .pinned], laidTests := true, laidLooks := .later }
def ShotEncodesCardSaid : Prop := Claim7.holds Tryd.pinned (.plain (OpenSpec.ofChange shotEncodesSpec)) shotEncodesCard

/-- THE TIED CARD OF 'heraldlaw5.ShotDiffs'. -/
def shotDiffsCard : Claim7 := { stood := { row := shotDiffsRow, standIns := [], harness := (true, "47b849953b1246cf538d066d11d37971339d33c3b464a27150887b44def3bd95"), looks := true }, kinds := [], alts := [], laidByText := true, laidKinds := [.data, .data, .pinned], laidTests := true, laidLooks := .later }
def ShotDiffsCardSaid : Prop := Claim7.holds Tryd.pinned (.plain (OpenSpec.ofChange shotDiffsSpec)) shotDiffsCard

/-- THE TIED CARD OF 'heraldlaw5.ShotDecodes'. -/
def shotDecodesCard : Claim7 := { stood := { row := shotDecodesRow, standIns := [], harness := (true, "47b849953b1246cf538d066d11d37971339d33c3b464a27150887b44def3bd95"), looks := true }, kinds := [], alts := [], laidByText := true, laidKinds := [.data, .data, .pinned], laidTests := true, laidLooks := .later }
def ShotDecodesCardSaid : Prop := Claim7.holds Tryd.pinned (.plain (OpenSpec.ofChange shotDecodesSpec)) shotDecodesCard

/-- THE TIED CARD OF 'heraldlaw5.ShotFolds'. -/
def shotFoldsCard : Claim7 := { stood := { row := shotFoldsRow, standIns := [], harness := (true, "47b849953b1246cf538d066d11d37971339d33c3b464a27150887b44def3bd95"), looks := true }, kinds := [], alts := [], laidByText := true, laidKinds := [.data, .data, .pinned], laidTests := true, laidLooks := .later }
def ShotFoldsCardSaid : Prop := Claim7.holds Tryd.pinned (.plain (OpenSpec.ofChange shotFoldsSpec)) shotFoldsCard

/-- THE SECOND FORM's CARD OF 'heraldlaw5.ShotChecks'. -/
def shotChecksUptoCard : Claim7 := { stood := { row := shotChecksUptoRow, standIns := [], harness := (true, "47b849953b1246cf538d066d11d37971339d33c3b464a27150887b44def3bd95"), looks := true }, kinds := [], alts := [], laidByText := true, laidKinds := [.data, .data, .pinned], laidTests := true, laidLooks := .later }
def ShotChecksUptoCardSaid : Prop := Claim7.holds Tryd.pinned (.plain (OpenSpec.upto shotChecksSpec)) shotChecksUptoCard

/-- THE SECOND FORM's CARD OF 'heraldlaw5.ShotEncodes'. -/
def shotEncodesUptoCard : Claim7 := { stood := { row := shotEncodesUptoRow, standIns := [], harness := (true, "47b849953b1246cf538d066d11d37971339d33c3b464a27150887b44def3bd95"), looks := true }, kinds := [], alts := [], laidByText := true, laidKinds := [.data, .data, .pinned], laidTests := true, laidLooks := .later }
def ShotEncodesUptoCardSaid : Prop := Claim7.holds Tryd.pinned (.plain (OpenSpec.upto shotEncodesSpec)) shotEncodesUptoCard

/-- THE SECOND FORM's CARD OF 'heraldlaw5.ShotDiffs'. -/
def shotDiffsUptoCard : Claim7 := { stood := { row := shotDiffsUptoRow, standIns := [], harness := (true, "47b849953b1246cf538d066d11d37971339d33c3b464a27150887b44def3bd95"), looks := true }, kinds := [], alts := [], laidByText := true, laidKinds := [.data, .data, .pinned], laidTests := true, laidLooks := .later }
def ShotDiffsUptoCardSaid : Prop := Claim7.holds Tryd.pinned (.plain (OpenSpec.upto shotDiffsSpec)) shotDiffsUptoCard

/-- THE SECOND FORM's CARD OF 'heraldlaw5.ShotDecodes'. -/
def shotDecodesUptoCard : Claim7 := { stood := { row := shotDecodesUptoRow, standIns := [], harness := (true, "47b849953b1246cf538d066d11d37971339d33c3b464a27150887b44def3bd95"), looks := true }, kinds := [], alts := [], laidByText := true, laidKinds := [.data, .data, .pinned], laidTests := true, laidLooks := .later }
def ShotDecodesUptoCardSaid : Prop := Claim7.holds Tryd.pinned (.plain (OpenSpec.upto shotDecodesSpec)) shotDecodesUptoCard

/-- THE SECOND FORM's CARD OF 'heraldlaw5.ShotFolds'. -/
def shotFoldsUptoCard : Claim7 := { stood := { row := shotFoldsUptoRow, standIns := [], harness := (true, "47b849953b1246cf538d066d11d37971339d33c3b464a27150887b44def3bd95"), looks := true }, kinds := [], alts := [], laidByText := true, laidKinds := [.data, .data, .pinned], laidTests := true, laidLooks := .later }
def ShotFoldsUptoCardSaid : Prop := Claim7.holds Tryd.pinned (.plain (OpenSpec.upto shotFoldsSpec)) shotFoldsUptoCard
end Rows
end Go.Proofs.YtfohedaadncefaaDoor
