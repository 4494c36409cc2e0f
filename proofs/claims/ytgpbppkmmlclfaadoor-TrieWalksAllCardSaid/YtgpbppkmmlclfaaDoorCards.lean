/-
  DERIVED. GIVEN WITH THE SEED: THE CARDS: each row of YtgpbppkmmlclfaaDoorRows.lean that lists a variable, with what it lists TIED to the program's text (the seventh form; the later family's looks); each row that meets fmt, with fmt's text TOLD by the authors' own Lean function (tested against real Go, not proved from fmt's source: count such statements apart). THE CARD IS WHAT COUNTS. Prove the row's statement (the work); the ties are given (YtgpbppkmmlclfaaDoorTie.lean); close each card by the builder's one call (the guide's Derived/Test/ToyasCard.lean, 'card_holds'). Laid BY PROGRAM, IN A SANDBOX (cutbox-door.mjs). By AI agents, Wed Nov 11 2026. No macro, syntax, notation, axiom, sorry.
-/
import Derived.Test.YtgpbppkmmlclfaaDoorRows
import GoSem.ClaimSeven
namespace Go.Proofs.YtgpbppkmmlclfaaDoor
namespace Rows

/-- THE TIED CARD OF 'heraldlaw9.TrieMatchesEach'. -/
def trieMatchesEachCard : Claim7 := { stood := { row := trieMatchesEachRow, standIns := [], harness := (true, "ddf2bbacf0a22825a4cf8bed885d5931e4172f18fff5c08a16014eb7b79f8de2"), looks := false }, kinds := [], alts := [], laidByText := true, laidKinds := [.data, .data, .pinned], laidTests := true, laidLooks := .later }
def TrieMatchesEachCardSaid : Prop := Claim7.holds Tryd.pinned (.plain (OpenSpec.ofChange trieMatchesEachSpec)) trieMatchesEachCard

/-- THE TIED CARD OF 'heraldlaw9.TrieWalksAll'. -/
def trieWalksAllCard : Claim7 := { stood := { row := trieWalksAllRow, standIns := [], harness := (true, "ddf2bbacf0a22825a4cf8bed885d5931e4172f18fff5c08a16014eb7b79f8de2"), looks := false }, kinds := [], alts := [], laidByText := true, laidKinds := [.data, .data, .pinned], laidTests := true, laidLooks := .later }
def TrieWalksAllCardSaid : Prop := Claim7.holds Tryd.pinned (.plain (OpenSpec.ofChange trieWalksAllSpec)) trieWalksAllCard

/-- THE TIED CARD OF 'heraldlaw9.TrieForgetsOrder'. -/
def trieForgetsOrderCard : Claim7 := { stood := { row := trieForgetsOrderRow, standIns := [], harness := (true, "ddf2bbacf0a22825a4cf8bed885d5931e4172f18fff5c08a16014eb7b79f8de2"), looks := false }, kinds := [], alts := [], laidByText := true, laidKinds := [.data, .data, .pinned], laidTests := true, laidLooks := .later }
def TrieForgetsOrderCardSaid : Prop := Claim7.holds Tryd.pinned (.plain (OpenSpec.ofChange trieForgetsOrderSpec)) trieForgetsOrderCard

/-- THE TIED CARD OF 'heraldlaw9.TrieMayStop'. -/
def trieMayStopCard : Claim7 := { stood := { row := trieMayStopRow, standIns := [], harness := (true, "ddf2bbacf0a22825a4cf8bed885d5931e4172f18fff5c08a16014eb7b79f8de2"), looks := false }, kinds := [], alts := [], laidByText := true, laidKinds := [.data, .data, .pinned], laidTests := true, laidLooks := .later }
def TrieMayStopCardSaid : Prop := Claim7.holds Tryd.pinned (.plain (OpenSpec.ofChange trieMayStopSpec)) trieMayStopCard

/-- THE TIED CARD OF 'heraldlaw9.TrieLeavesNothing'. -/
def trieLeavesNothingCard : Claim7 := { stood := { row := trieLeavesNothingRow, standIns := [], harness := (true, "ddf2bbacf0a22825a4cf8bed885d5931e4172f18fff5c08a16014eb7b79f8de2"), looks := false }, kinds := [], alts := [], laidByText := true, laidKinds := [.data, .data, .pinned], laidTests := true, laidLooks := .later }
def TrieLeavesNothingCardSaid : Prop := Claim7.holds Tryd.pinned (.plain (OpenSpec.ofChange trieLeavesNothingSpec)) trieLeavesNothingCard

/-- THE SECOND FORM's CARD OF 'heraldlaw9.TrieMatchesEach'. -/
def trieMatchesEachUptoCard : Claim7 := { stood := { row := trieMatchesEachUptoRow, standIns := [], harness := (true, "ddf2bbacf0a22825a4cf8bed885d5931e4172f18fff5c08a16014eb7b79f8de2"), looks := false }, kinds := [], alts := [], laidByText := true, laidKinds := [.data, .data, .pinned], laidTests := true, laidLooks := .later }
def TrieMatchesEachUptoCardSaid : Prop := Claim7.holds Tryd.pinned (.plain (OpenSpec.upto trieMatchesEachSpec)) trieMatchesEachUptoCard

/-- THE SECOND FORM's CARD OF 'heraldlaw9.TrieWalksAll'. -/
def trieWalksAllUptoCard : Claim7 := { stood := { row := trieWalksAllUptoRow, standIns := [], harness := (true, "ddf2bbacf0a22825a4cf8bed885d5931e4172f18fff5c08a16014eb7b79f8de2"), looks := false }, kinds := [], alts := [], laidByText := true, laidKinds := [.data, .data, .pinned], laidTests := true, laidLooks := .later }
def TrieWalksAllUptoCardSaid : Prop := Claim7.holds Tryd.pinned (.plain (OpenSpec.upto trieWalksAllSpec)) trieWalksAllUptoCard

/-- THE SECOND FORM's CARD OF 'heraldlaw9.TrieForgetsOrder'. -/
def trieForgetsOrderUptoCard : Claim7 := { stood := { row := trieForgetsOrderUptoRow, standIns := [], harness := (true, "ddf2bbacf0a22825a4cf8bed885d5931e4172f18fff5c08a16014eb7b79f8de2"), looks := false }, kinds := [], alts := [], laidByText := true, laidKinds := [.data, .data, .pinned], laidTests := true, laidLooks := .later }
def TrieForgetsOrderUptoCardSaid : Prop := Claim7.holds Tryd.pinned (.plain (OpenSpec.upto trieForgetsOrderSpec)) trieForgetsOrderUptoCard

/-- THE SECOND FORM's CARD OF 'heraldlaw9.TrieMayStop'. -/
def trieMayStopUptoCard : Claim7 := { stood := { row := trieMayStopUptoRow, standIns := [], harness := (true, "ddf2bbacf0a22825a4cf8bed885d5931e4172f18fff5c08a16014eb7b79f8de2"), looks := false }, kinds := [], alts := [], laidByText := true, laidKinds := [.data, .data, .pinned], laidTests := true, laidLooks := .later }
def TrieMayStopUptoCardSaid : Prop := Claim7.holds Tryd.pinned (.plain (OpenSpec.upto trieMayStopSpec)) trieMayStopUptoCard

/-- THE SECOND FORM's CARD OF 'heraldlaw9.TrieLeavesNothing'. -/
def trieLeavesNothingUptoCard : Claim7 := { stood := { row := trieLeavesNothingUptoRow, standIns := [], harness := (true, "ddf2bbacf0a22825a4cf8bed885d5931e4172f18fff5c08a16014eb7b79f8de2"), looks := false }, kinds := [], alts := [], laidByText := true, laidKinds := [.data, .data, .pinned], laidTests := true, laidLooks := .later }
def TrieLeavesNothingUptoCardSaid : Prop := Claim7.holds Tryd.pinned (.plain (OpenSpec.upto trieLeavesNothingSpec)) trieLeavesNothingUptoCard
end Rows
end Go.Proofs.YtgpbppkmmlclfaaDoor
