/-
  NARROWER THAN 'FOR EVERY INPUT', by the rows' own cells (each row's printed sentence says how): ShotChecks: laid · ShotEncodes: laid · ShotDiffs: laid · ShotDecodes: laid · ShotFolds: laid.
  DERIVED. THE GIVEN ROWS OF THIS SEAT. 5 by the template 'for every input the law returns true; each argument reads behind the call as it read before'; 0 by the template 'total and deterministic' (their statements: YtfohedaadncefaaDoorTotals.lean).
  GIVEN WITH THE SEED: the statements are not yours to turn. If you find one false, say at which input.
  Laid BY PROGRAM, IN A SANDBOX (cutbox-rows.mjs): the forced cells as the released guide's own fill.sh prints them over the translation 3d75f0d0b3ca8179… (all of the seat's roots in one cut). By AI agents, Wed Nov 11 2026. No macro, syntax, notation, axiom, sorry.
-/
import Derived.Test.YtfohedaadncefaaDoorChecked
import GoSem.PinnedTables
import GoSem.Claim
import GoSem.ClaimJoined
import GoSem.ClaimMapViews
import Derived.JoinedTies
import Derived.KernelRfl
namespace Go.Proofs.YtfohedaadncefaaDoor
/- THE CELL 'sum', in the pinned program and in every row, IS THE sha256 OF THE DUMP (.gsa) THAT YtfohedaadncefaaDoorProg.lean LOADS. Nothing in Lean hashes anything: it is a label: what it is worth is what the hold of that sum in a sandbox is worth. -/
noncomputable def Tryd.pinned : Pinned := { name := "ytfohedaadncefaadoor", sum := "3d75f0d0b3ca81794307c7c1d9953e83b881b54bf937f29b745053e36b357975", checked := Tryd.checked }
namespace Rows
def none {H : Type} : Left H := { results := [], args := [] }

/- WHAT THE LISTED PACKAGE-LEVEL VARIABLES READ AS WHEN THE CALL BEGINS. Each datum BY PROGRAM (the guide's laid-datum.mjs) off the statement by which the dump's own 'gosem.cut.vars' lays the variable. In a bare row this is a premise. The card (YtfohedaadncefaaDoorCards.lean) ties it to the program's text. -/
def laid_unicode_utf8_acceptRanges {H : Type} : DataW H := .agg [.agg [.lit (.int .u8 128), .lit (.int .u8 191)], .agg [.lit (.int .u8 160), .lit (.int .u8 191)], .agg [.lit (.int .u8 128), .lit (.int .u8 159)], .agg [.lit (.int .u8 144), .lit (.int .u8 191)], .agg [.lit (.int .u8 128), .lit (.int .u8 143)], .agg [.lit (.int .u8 0), .lit (.int .u8 0)], .agg [.lit (.int .u8 0), .lit (.int .u8 0)], .agg [.lit (.int .u8 0), .lit (.int .u8 0)], .agg [.lit (.int .u8 0), .lit (.int .u8 0)], .agg [.lit (.int .u8 0), .lit (.int .u8 0)], .agg [.lit (.int .u8 0), .lit (.int .u8 0)], .agg [.lit (.int .u8 0), .lit (.int .u8 0)], .agg [.lit (.int .u8 0), .lit (.int .u8 0)], .agg [.lit (.int .u8 0), .lit (.int .u8 0)], .agg [.lit (.int .u8 0), .lit (.int .u8 0)], .agg [.lit (.int .u8 0), .lit (.int .u8 0)]]
def laid_herald_place_named {H : Type} : DataW H := .agg [.lit (.int .u8 0), .lit (.int .u8 0), .lit (.int .u8 0), .lit (.int .u8 0), .lit (.int .u8 0), .lit (.int .u8 0), .lit (.int .u8 0), .lit (.int .u8 0), .lit (.int .u8 0), .lit (.int .u8 0), .lit (.int .u8 0), .lit (.int .u8 0), .lit (.int .u8 0), .lit (.int .u8 0), .lit (.int .u8 0), .lit (.int .u8 0), .lit (.int .u8 0), .lit (.int .u8 0), .lit (.int .u8 0), .lit (.int .u8 0), .lit (.int .u8 0), .lit (.int .u8 0), .lit (.int .u8 0), .lit (.int .u8 0), .lit (.int .u8 0), .lit (.int .u8 0), .lit (.int .u8 0), .lit (.int .u8 0), .lit (.int .u8 0), .lit (.int .u8 0), .lit (.int .u8 0), .lit (.int .u8 0), .lit (.int .u8 0), .lit (.int .u8 0), .lit (.int .u8 0), .lit (.int .u8 0), .lit (.int .u8 0), .lit (.int .u8 0), .lit (.int .u8 0), .lit (.int .u8 0), .lit (.int .u8 0), .lit (.int .u8 0), .lit (.int .u8 0), .lit (.int .u8 0), .lit (.int .u8 0), .lit (.int .u8 1), .lit (.int .u8 1), .lit (.int .u8 0), .lit (.int .u8 1), .lit (.int .u8 1), .lit (.int .u8 1), .lit (.int .u8 1), .lit (.int .u8 1), .lit (.int .u8 1), .lit (.int .u8 1), .lit (.int .u8 1), .lit (.int .u8 1), .lit (.int .u8 1), .lit (.int .u8 0), .lit (.int .u8 0), .lit (.int .u8 0), .lit (.int .u8 0), .lit (.int .u8 0), .lit (.int .u8 0), .lit (.int .u8 0), .lit (.int .u8 1), .lit (.int .u8 1), .lit (.int .u8 1), .lit (.int .u8 1), .lit (.int .u8 1), .lit (.int .u8 1), .lit (.int .u8 1), .lit (.int .u8 1), .lit (.int .u8 1), .lit (.int .u8 1), .lit (.int .u8 1), .lit (.int .u8 1), .lit (.int .u8 1), .lit (.int .u8 1), .lit (.int .u8 1), .lit (.int .u8 1), .lit (.int .u8 1), .lit (.int .u8 1), .lit (.int .u8 1), .lit (.int .u8 1), .lit (.int .u8 1), .lit (.int .u8 1), .lit (.int .u8 1), .lit (.int .u8 1), .lit (.int .u8 1), .lit (.int .u8 1), .lit (.int .u8 0), .lit (.int .u8 0), .lit (.int .u8 0), .lit (.int .u8 0), .lit (.int .u8 1), .lit (.int .u8 0), .lit (.int .u8 1), .lit (.int .u8 1), .lit (.int .u8 1), .lit (.int .u8 1), .lit (.int .u8 1), .lit (.int .u8 1), .lit (.int .u8 1), .lit (.int .u8 1), .lit (.int .u8 1), .lit (.int .u8 1), .lit (.int .u8 1), .lit (.int .u8 1), .lit (.int .u8 1), .lit (.int .u8 1), .lit (.int .u8 1), .lit (.int .u8 1), .lit (.int .u8 1), .lit (.int .u8 1), .lit (.int .u8 1), .lit (.int .u8 1), .lit (.int .u8 1), .lit (.int .u8 1), .lit (.int .u8 1), .lit (.int .u8 1), .lit (.int .u8 1), .lit (.int .u8 1), .lit (.int .u8 0), .lit (.int .u8 0), .lit (.int .u8 0), .lit (.int .u8 0), .lit (.int .u8 0)]
/-- One of Go's own tables, pinned by name: the form's constant. -/
def laid_unicode_utf8_first : DataW Unit := Go.Pinned.utf8First

/-- 'heraldlaw5.ShotChecks': WHATEVER THE INPUT: true; the input reads as it did. -/
def shotChecksSpec : ChangeSpec := { name := "shotChecks", fn := fun _ => fun
  | [d] => { results := [.lit (.bool true)], args := [d] }
  | _ => none }
def shotChecksRow : OpenClaim := { program := "ytfohedaadncefaadoor", sum := "3d75f0d0b3ca81794307c7c1d9953e83b881b54bf937f29b745053e36b357975", func := "herald/heraldlaw5.ShotChecks", spec := "shotChecks", inPlace := ["internal/bytealg.CountString", "internal/bytealg.IndexByteString", "internal/bytealg.IndexString", "internal/abi.NoEscape", "internal/bytealg.MakeNoZero"], unfollowed := true, recurses := true, named := ["unicode/utf8.first", "unicode/utf8.acceptRanges", "internal/bytealg.MaxLen", "herald/place.named"], apart := false, laid := [("unicode/utf8.acceptRanges", laid_unicode_utf8_acceptRanges), ("herald/place.named", laid_herald_place_named), ("unicode/utf8.first", laid_unicode_utf8_first)] }
def ShotChecksSaid : Prop := shotChecksRow.holds Tryd.pinned (OpenSpec.ofChange shotChecksSpec)

/-- ITS FALSE NEIGHBOUR: 'it returns false'. Refute it at one input. -/
def shotChecksWrong : ChangeSpec := { name := "shotChecks", fn := fun _ => fun
  | [d] => { results := [.lit (.bool false)], args := [d] }
  | _ => none }
def ShotChecksWrongFalsely : Prop := shotChecksRow.holds Tryd.pinned (OpenSpec.ofChange shotChecksWrong)

/-- 'heraldlaw5.ShotEncodes': WHATEVER THE INPUT: true; the input reads as it did. -/
def shotEncodesSpec : ChangeSpec := { name := "shotEncodes", fn := fun _ => fun
  | [d] => { results := [.lit (.bool true)], args := [d] }
  | _ => none }
def shotEncodesRow : OpenClaim := { program := "ytfohedaadncefaadoor", sum := "3d75f0d0b3ca81794307c7c1d9953e83b881b54bf937f29b745053e36b357975", func := "herald/heraldlaw5.ShotEncodes", spec := "shotEncodes", inPlace := ["internal/bytealg.CountString", "internal/bytealg.IndexByteString", "internal/bytealg.IndexString", "internal/abi.NoEscape", "internal/bytealg.MakeNoZero"], unfollowed := true, recurses := true, named := ["unicode/utf8.first", "unicode/utf8.acceptRanges", "internal/bytealg.MaxLen", "herald/place.named"], apart := false, laid := [("unicode/utf8.acceptRanges", laid_unicode_utf8_acceptRanges), ("herald/place.named", laid_herald_place_named), ("unicode/utf8.first", laid_unicode_utf8_first)] }
def ShotEncodesSaid : Prop := shotEncodesRow.holds Tryd.pinned (OpenSpec.ofChange shotEncodesSpec)

/-- ITS FALSE NEIGHBOUR: 'it returns false'. Refute it at one input. -/
def shotEncodesWrong : ChangeSpec := { name := "shotEncodes", fn := fun _ => fun
  | [d] => { results := [.lit (.bool false)], args := [d] }
  | _ => none }
def ShotEncodesWrongFalsely : Prop := shotEncodesRow.holds Tryd.pinned (OpenSpec.ofChange shotEncodesWrong)

/-- 'heraldlaw5.ShotDiffs': WHATEVER THE INPUT: true; the input reads as it did. -/
def shotDiffsSpec : ChangeSpec := { name := "shotDiffs", fn := fun _ => fun
  | [d1, d2] => { results := [.lit (.bool true)], args := [d1, d2] }
  | _ => none }
def shotDiffsRow : OpenClaim := { program := "ytfohedaadncefaadoor", sum := "3d75f0d0b3ca81794307c7c1d9953e83b881b54bf937f29b745053e36b357975", func := "herald/heraldlaw5.ShotDiffs", spec := "shotDiffs", inPlace := ["internal/bytealg.CountString", "internal/bytealg.IndexByteString", "internal/bytealg.IndexString", "internal/abi.NoEscape", "internal/bytealg.MakeNoZero"], unfollowed := true, recurses := true, named := ["unicode/utf8.first", "unicode/utf8.acceptRanges", "internal/bytealg.MaxLen", "herald/place.named"], apart := false, laid := [("unicode/utf8.acceptRanges", laid_unicode_utf8_acceptRanges), ("herald/place.named", laid_herald_place_named), ("unicode/utf8.first", laid_unicode_utf8_first)] }
def ShotDiffsSaid : Prop := shotDiffsRow.holds Tryd.pinned (OpenSpec.ofChange shotDiffsSpec)

/-- ITS FALSE NEIGHBOUR: 'it returns false'. Refute it at one input. -/
def shotDiffsWrong : ChangeSpec := { name := "shotDiffs", fn := fun _ => fun
  | [d1, d2] => { results := [.lit (.bool false)], args := [d1, d2] }
  | _ => none }
def ShotDiffsWrongFalsely : Prop := shotDiffsRow.holds Tryd.pinned (OpenSpec.ofChange shotDiffsWrong)

/-- 'heraldlaw5.ShotDecodes': WHATEVER THE INPUT: true; the input reads as it did. -/
def shotDecodesSpec : ChangeSpec := { name := "shotDecodes", fn := fun _ => fun
  | [d1, d2] => { results := [.lit (.bool true)], args := [d1, d2] }
  | _ => none }
def shotDecodesRow : OpenClaim := { program := "ytfohedaadncefaadoor", sum := "3d75f0d0b3ca81794307c7c1d9953e83b881b54bf937f29b745053e36b357975", func := "herald/heraldlaw5.ShotDecodes", spec := "shotDecodes", inPlace := ["internal/bytealg.CountString", "internal/bytealg.IndexByteString", "internal/bytealg.IndexString", "internal/abi.NoEscape", "internal/bytealg.MakeNoZero"], unfollowed := true, recurses := true, named := ["unicode/utf8.first", "unicode/utf8.acceptRanges", "internal/bytealg.MaxLen", "herald/place.named"], apart := false, laid := [("unicode/utf8.acceptRanges", laid_unicode_utf8_acceptRanges), ("herald/place.named", laid_herald_place_named), ("unicode/utf8.first", laid_unicode_utf8_first)] }
def ShotDecodesSaid : Prop := shotDecodesRow.holds Tryd.pinned (OpenSpec.ofChange shotDecodesSpec)

/-- ITS FALSE NEIGHBOUR: 'it returns false'. Refute it at one input. -/
def shotDecodesWrong : ChangeSpec := { name := "shotDecodes", fn := fun _ => fun
  | [d1, d2] => { results := [.lit (.bool false)], args := [d1, d2] }
  | _ => none }
def ShotDecodesWrongFalsely : Prop := shotDecodesRow.holds Tryd.pinned (OpenSpec.ofChange shotDecodesWrong)

/-- 'heraldlaw5.ShotFolds': WHATEVER THE INPUT: true; the input reads as it did. -/
def shotFoldsSpec : ChangeSpec := { name := "shotFolds", fn := fun _ => fun
  | [d1, d2, d3] => { results := [.lit (.bool true)], args := [d1, d2, d3] }
  | _ => none }
def shotFoldsRow : OpenClaim := { program := "ytfohedaadncefaadoor", sum := "3d75f0d0b3ca81794307c7c1d9953e83b881b54bf937f29b745053e36b357975", func := "herald/heraldlaw5.ShotFolds", spec := "shotFolds", inPlace := ["internal/bytealg.CountString", "internal/bytealg.IndexByteString", "internal/bytealg.IndexString", "internal/abi.NoEscape", "internal/bytealg.MakeNoZero", "slices.overlaps[herald/api.Seen]"], unfollowed := true, recurses := true, named := ["unicode/utf8.first", "unicode/utf8.acceptRanges", "internal/bytealg.MaxLen", "herald/place.named"], apart := false, laid := [("unicode/utf8.acceptRanges", laid_unicode_utf8_acceptRanges), ("herald/place.named", laid_herald_place_named), ("unicode/utf8.first", laid_unicode_utf8_first)] }
def ShotFoldsSaid : Prop := shotFoldsRow.holds Tryd.pinned (OpenSpec.ofChange shotFoldsSpec)

/-- ITS FALSE NEIGHBOUR: 'it returns false'. Refute it at one input. -/
def shotFoldsWrong : ChangeSpec := { name := "shotFolds", fn := fun _ => fun
  | [d1, d2, d3] => { results := [.lit (.bool false)], args := [d1, d2, d3] }
  | _ => none }
def ShotFoldsWrongFalsely : Prop := shotFoldsRow.holds Tryd.pinned (OpenSpec.ofChange shotFoldsWrong)

/- THE SECOND FORM. 'bulk': how many values and letters a reading holds, each counted each time it is reached (what is shared counts as often as it is met; a slice's spare places count too). A statement '..UptoSaid' is the law's where the arguments, and the package variables that the reading takes, are together of bulk at most 1048576: NARROWER than '..Said'. Prove '..Said' where nothing that the law and all that it calls make is longer than what came in: it says more and counts as full. Else prove '..UptoSaid'. A law counts once. -/
mutual
def uptoBulk {H : Type} : DataW H → Nat
  | .lit (.string bytes) => bytes.length + 1
  | .lit _ => 1
  | .nil => 1
  | .ptr d => uptoBulk d + 1
  | .slice elems spare => uptoBulkAll elems + uptoBulkAll spare + 1
  | .agg parts => uptoBulkAll parts + 1
  | .iface _ d => uptoBulk d + 1
  | .map entries => uptoBulkEntries entries + 1
  | .held _ => 1
def uptoBulkAll {H : Type} : List (DataW H) → Nat
  | [] => 0
  | d :: r => uptoBulk d + uptoBulkAll r
def uptoBulkEntries {H : Type} : List (Lit × DataW H) → Nat
  | [] => 0
  | x :: r => uptoBulkEntry x + uptoBulkEntries r
def uptoBulkEntry {H : Type} : Lit × DataW H → Nat
  | (.string bytes, d) => bytes.length + uptoBulk d + 1
  | (_, d) => uptoBulk d + 1
 end
def uptoSmall : (H : Type) → List (DataW H) → Bool := fun _ ds => decide (uptoBulkAll ds ≤ 1048576)
def OpenSpec.upto (s : _root_.Go.ChangeSpec) : _root_.Go.OpenSpec := { _root_.Go.OpenSpec.ofChange s with cond := some uptoSmall }

/-- 'heraldlaw5.ShotChecks', WHERE WHAT IT READS IS OF BULK AT MOST 1048576: true; the input reads as it did. -/
def shotChecksUptoRow : OpenClaim := { program := "ytfohedaadncefaadoor", sum := "3d75f0d0b3ca81794307c7c1d9953e83b881b54bf937f29b745053e36b357975", func := "herald/heraldlaw5.ShotChecks", spec := "shotChecks", inPlace := ["internal/bytealg.CountString", "internal/bytealg.IndexByteString", "internal/bytealg.IndexString", "internal/abi.NoEscape", "internal/bytealg.MakeNoZero"], unfollowed := true, recurses := true, named := ["unicode/utf8.first", "unicode/utf8.acceptRanges", "internal/bytealg.MaxLen", "herald/place.named"], apart := false, laid := [("unicode/utf8.acceptRanges", laid_unicode_utf8_acceptRanges), ("herald/place.named", laid_herald_place_named), ("unicode/utf8.first", laid_unicode_utf8_first)], narrowed := true }
def ShotChecksUptoSaid : Prop := shotChecksUptoRow.holds Tryd.pinned (OpenSpec.upto shotChecksSpec)

/-- 'heraldlaw5.ShotEncodes', WHERE WHAT IT READS IS OF BULK AT MOST 1048576: true; the input reads as it did. -/
def shotEncodesUptoRow : OpenClaim := { program := "ytfohedaadncefaadoor", sum := "3d75f0d0b3ca81794307c7c1d9953e83b881b54bf937f29b745053e36b357975", func := "herald/heraldlaw5.ShotEncodes", spec := "shotEncodes", inPlace := ["internal/bytealg.CountString", "internal/bytealg.IndexByteString", "internal/bytealg.IndexString", "internal/abi.NoEscape", "internal/bytealg.MakeNoZero"], unfollowed := true, recurses := true, named := ["unicode/utf8.first", "unicode/utf8.acceptRanges", "internal/bytealg.MaxLen", "herald/place.named"], apart := false, laid := [("unicode/utf8.acceptRanges", laid_unicode_utf8_acceptRanges), ("herald/place.named", laid_herald_place_named), ("unicode/utf8.first", laid_unicode_utf8_first)], narrowed := true }
def ShotEncodesUptoSaid : Prop := shotEncodesUptoRow.holds Tryd.pinned (OpenSpec.upto shotEncodesSpec)

/-- 'heraldlaw5.ShotDiffs', WHERE WHAT IT READS IS OF BULK AT MOST 1048576: true; the input reads as it did. -/
def shotDiffsUptoRow : OpenClaim := { program := "ytfohedaadncefaadoor", sum := "3d75f0d0b3ca81794307c7c1d9953e83b881b54bf937f29b745053e36b357975", func := "herald/heraldlaw5.ShotDiffs", spec := "shotDiffs", inPlace := ["internal/bytealg.CountString", "internal/bytealg.IndexByteString", "internal/bytealg.IndexString", "internal/abi.NoEscape", "internal/bytealg.MakeNoZero"], unfollowed := true, recurses := true, named := ["unicode/utf8.first", "unicode/utf8.acceptRanges", "internal/bytealg.MaxLen", "herald/place.named"], apart := false, laid := [("unicode/utf8.acceptRanges", laid_unicode_utf8_acceptRanges), ("herald/place.named", laid_herald_place_named), ("unicode/utf8.first", laid_unicode_utf8_first)], narrowed := true }
def ShotDiffsUptoSaid : Prop := shotDiffsUptoRow.holds Tryd.pinned (OpenSpec.upto shotDiffsSpec)

/-- 'heraldlaw5.ShotDecodes', WHERE WHAT IT READS IS OF BULK AT MOST 1048576: true; the input reads as it did. -/
def shotDecodesUptoRow : OpenClaim := { program := "ytfohedaadncefaadoor", sum := "3d75f0d0b3ca81794307c7c1d9953e83b881b54bf937f29b745053e36b357975", func := "herald/heraldlaw5.ShotDecodes", spec := "shotDecodes", inPlace := ["internal/bytealg.CountString", "internal/bytealg.IndexByteString", "internal/bytealg.IndexString", "internal/abi.NoEscape", "internal/bytealg.MakeNoZero"], unfollowed := true, recurses := true, named := ["unicode/utf8.first", "unicode/utf8.acceptRanges", "internal/bytealg.MaxLen", "herald/place.named"], apart := false, laid := [("unicode/utf8.acceptRanges", laid_unicode_utf8_acceptRanges), ("herald/place.named", laid_herald_place_named), ("unicode/utf8.first", laid_unicode_utf8_first)], narrowed := true }
def ShotDecodesUptoSaid : Prop := shotDecodesUptoRow.holds Tryd.pinned (OpenSpec.upto shotDecodesSpec)

/-- 'heraldlaw5.ShotFolds', WHERE WHAT IT READS IS OF BULK AT MOST 1048576: true; the input reads as it did. -/
def shotFoldsUptoRow : OpenClaim := { program := "ytfohedaadncefaadoor", sum := "3d75f0d0b3ca81794307c7c1d9953e83b881b54bf937f29b745053e36b357975", func := "herald/heraldlaw5.ShotFolds", spec := "shotFolds", inPlace := ["internal/bytealg.CountString", "internal/bytealg.IndexByteString", "internal/bytealg.IndexString", "internal/abi.NoEscape", "internal/bytealg.MakeNoZero", "slices.overlaps[herald/api.Seen]"], unfollowed := true, recurses := true, named := ["unicode/utf8.first", "unicode/utf8.acceptRanges", "internal/bytealg.MaxLen", "herald/place.named"], apart := false, laid := [("unicode/utf8.acceptRanges", laid_unicode_utf8_acceptRanges), ("herald/place.named", laid_herald_place_named), ("unicode/utf8.first", laid_unicode_utf8_first)], narrowed := true }
def ShotFoldsUptoSaid : Prop := shotFoldsUptoRow.holds Tryd.pinned (OpenSpec.upto shotFoldsSpec)

end Rows
end Go.Proofs.YtfohedaadncefaaDoor
