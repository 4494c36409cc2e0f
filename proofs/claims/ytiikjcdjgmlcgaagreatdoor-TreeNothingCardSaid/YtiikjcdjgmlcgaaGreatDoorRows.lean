/-
  NARROWER THAN 'FOR EVERY INPUT', by the rows' own cells (each row's printed sentence says how): TreeLoaded: laid · TreeTells: laid · TreePart: laid · TreeOwn: laid · TreePlays: laid · TreeEnds: laid · TreeParts: laid · TreeNodes: laid · TreeGoes: laid · TreeLoads: laid · TreeTwo: laid · TreeNothing: laid.
  DERIVED. THE GIVEN ROWS OF THIS SEAT. 12 by the template 'for every input the law returns true; each argument reads behind the call as it read before'; 0 by the template 'total and deterministic' (their statements: YtiikjcdjgmlcgaaGreatDoorTotals.lean).
  GIVEN WITH THE SEED: the statements are not yours to turn. If you find one false, say at which input.
  Laid BY PROGRAM, IN A SANDBOX (cutbox-rows.mjs): the forced cells as the released guide's own fill.sh prints them over the translation b980f3a0a442bf66… (all of the seat's roots in one cut). By AI agents, Wed Nov 11 2026. No macro, syntax, notation, axiom, sorry.
-/
import Derived.Test.YtiikjcdjgmlcgaaGreatDoorChecked
import GoSem.PinnedTables
import GoSem.Claim
import GoSem.ClaimJoined
import GoSem.ClaimMapViews
import Derived.JoinedTies
import Derived.KernelRfl
namespace Go.Proofs.YtiikjcdjgmlcgaaGreatDoor
/- THE CELL 'sum', in the pinned program and in every row, IS THE sha256 OF THE DUMP (.gsa) THAT YtiikjcdjgmlcgaaGreatDoorProg.lean LOADS. Nothing in Lean hashes anything: it is a label: what it is worth is what the hold of that sum in a sandbox is worth. -/
noncomputable def Tryz.pinned : Pinned := { name := "ytiikjcdjgmlcgaagreatdoor", sum := "b980f3a0a442bf666bdd657587f6741fc037792bdc39f681bef03d1e2a800ef0", checked := Tryz.checked }
namespace Rows
def none {H : Type} : Left H := { results := [], args := [] }

/- WHAT THE LISTED PACKAGE-LEVEL VARIABLES READ AS WHEN THE CALL BEGINS. Each datum BY PROGRAM (the guide's laid-datum.mjs) off the statement by which the dump's own 'gosem.cut.vars' lays the variable. In a bare row this is a premise. The card (YtiikjcdjgmlcgaaGreatDoorCards.lean) ties it to the program's text. -/
def laid_math_bits_deBruijn32tab {H : Type} : DataW H := .agg [.lit (.int .u8 0), .lit (.int .u8 1), .lit (.int .u8 28), .lit (.int .u8 2), .lit (.int .u8 29), .lit (.int .u8 14), .lit (.int .u8 24), .lit (.int .u8 3), .lit (.int .u8 30), .lit (.int .u8 22), .lit (.int .u8 20), .lit (.int .u8 15), .lit (.int .u8 25), .lit (.int .u8 17), .lit (.int .u8 4), .lit (.int .u8 8), .lit (.int .u8 31), .lit (.int .u8 27), .lit (.int .u8 13), .lit (.int .u8 23), .lit (.int .u8 21), .lit (.int .u8 19), .lit (.int .u8 16), .lit (.int .u8 7), .lit (.int .u8 26), .lit (.int .u8 12), .lit (.int .u8 18), .lit (.int .u8 6), .lit (.int .u8 11), .lit (.int .u8 5), .lit (.int .u8 10), .lit (.int .u8 9)]
def laid_math_bits_deBruijn64tab {H : Type} : DataW H := .agg [.lit (.int .u8 0), .lit (.int .u8 1), .lit (.int .u8 56), .lit (.int .u8 2), .lit (.int .u8 57), .lit (.int .u8 49), .lit (.int .u8 28), .lit (.int .u8 3), .lit (.int .u8 61), .lit (.int .u8 58), .lit (.int .u8 42), .lit (.int .u8 50), .lit (.int .u8 38), .lit (.int .u8 29), .lit (.int .u8 17), .lit (.int .u8 4), .lit (.int .u8 62), .lit (.int .u8 47), .lit (.int .u8 59), .lit (.int .u8 36), .lit (.int .u8 45), .lit (.int .u8 43), .lit (.int .u8 51), .lit (.int .u8 22), .lit (.int .u8 53), .lit (.int .u8 39), .lit (.int .u8 33), .lit (.int .u8 30), .lit (.int .u8 24), .lit (.int .u8 18), .lit (.int .u8 12), .lit (.int .u8 5), .lit (.int .u8 63), .lit (.int .u8 55), .lit (.int .u8 48), .lit (.int .u8 27), .lit (.int .u8 60), .lit (.int .u8 41), .lit (.int .u8 37), .lit (.int .u8 16), .lit (.int .u8 46), .lit (.int .u8 35), .lit (.int .u8 44), .lit (.int .u8 21), .lit (.int .u8 52), .lit (.int .u8 32), .lit (.int .u8 23), .lit (.int .u8 11), .lit (.int .u8 54), .lit (.int .u8 26), .lit (.int .u8 40), .lit (.int .u8 15), .lit (.int .u8 34), .lit (.int .u8 20), .lit (.int .u8 31), .lit (.int .u8 10), .lit (.int .u8 25), .lit (.int .u8 14), .lit (.int .u8 19), .lit (.int .u8 9), .lit (.int .u8 13), .lit (.int .u8 8), .lit (.int .u8 7), .lit (.int .u8 6)]
def laid_internal_strconv_uint64pow10 {H : Type} : DataW H := .agg [.lit (.int .u64 1), .lit (.int .u64 10), .lit (.int .u64 100), .lit (.int .u64 1000), .lit (.int .u64 10000), .lit (.int .u64 100000), .lit (.int .u64 1000000), .lit (.int .u64 10000000), .lit (.int .u64 100000000), .lit (.int .u64 1000000000), .lit (.int .u64 10000000000), .lit (.int .u64 100000000000), .lit (.int .u64 1000000000000), .lit (.int .u64 10000000000000), .lit (.int .u64 100000000000000), .lit (.int .u64 1000000000000000), .lit (.int .u64 10000000000000000), .lit (.int .u64 100000000000000000), .lit (.int .u64 1000000000000000000), .lit (.int .u64 10000000000000000000)]
def laid_unicode_utf8_acceptRanges {H : Type} : DataW H := .agg [.agg [.lit (.int .u8 128), .lit (.int .u8 191)], .agg [.lit (.int .u8 160), .lit (.int .u8 191)], .agg [.lit (.int .u8 128), .lit (.int .u8 159)], .agg [.lit (.int .u8 144), .lit (.int .u8 191)], .agg [.lit (.int .u8 128), .lit (.int .u8 143)], .agg [.lit (.int .u8 0), .lit (.int .u8 0)], .agg [.lit (.int .u8 0), .lit (.int .u8 0)], .agg [.lit (.int .u8 0), .lit (.int .u8 0)], .agg [.lit (.int .u8 0), .lit (.int .u8 0)], .agg [.lit (.int .u8 0), .lit (.int .u8 0)], .agg [.lit (.int .u8 0), .lit (.int .u8 0)], .agg [.lit (.int .u8 0), .lit (.int .u8 0)], .agg [.lit (.int .u8 0), .lit (.int .u8 0)], .agg [.lit (.int .u8 0), .lit (.int .u8 0)], .agg [.lit (.int .u8 0), .lit (.int .u8 0)], .agg [.lit (.int .u8 0), .lit (.int .u8 0)]]
def laid_herald_place_named {H : Type} : DataW H := .agg [.lit (.int .u8 0), .lit (.int .u8 0), .lit (.int .u8 0), .lit (.int .u8 0), .lit (.int .u8 0), .lit (.int .u8 0), .lit (.int .u8 0), .lit (.int .u8 0), .lit (.int .u8 0), .lit (.int .u8 0), .lit (.int .u8 0), .lit (.int .u8 0), .lit (.int .u8 0), .lit (.int .u8 0), .lit (.int .u8 0), .lit (.int .u8 0), .lit (.int .u8 0), .lit (.int .u8 0), .lit (.int .u8 0), .lit (.int .u8 0), .lit (.int .u8 0), .lit (.int .u8 0), .lit (.int .u8 0), .lit (.int .u8 0), .lit (.int .u8 0), .lit (.int .u8 0), .lit (.int .u8 0), .lit (.int .u8 0), .lit (.int .u8 0), .lit (.int .u8 0), .lit (.int .u8 0), .lit (.int .u8 0), .lit (.int .u8 0), .lit (.int .u8 0), .lit (.int .u8 0), .lit (.int .u8 0), .lit (.int .u8 0), .lit (.int .u8 0), .lit (.int .u8 0), .lit (.int .u8 0), .lit (.int .u8 0), .lit (.int .u8 0), .lit (.int .u8 0), .lit (.int .u8 0), .lit (.int .u8 0), .lit (.int .u8 1), .lit (.int .u8 1), .lit (.int .u8 0), .lit (.int .u8 1), .lit (.int .u8 1), .lit (.int .u8 1), .lit (.int .u8 1), .lit (.int .u8 1), .lit (.int .u8 1), .lit (.int .u8 1), .lit (.int .u8 1), .lit (.int .u8 1), .lit (.int .u8 1), .lit (.int .u8 0), .lit (.int .u8 0), .lit (.int .u8 0), .lit (.int .u8 0), .lit (.int .u8 0), .lit (.int .u8 0), .lit (.int .u8 0), .lit (.int .u8 1), .lit (.int .u8 1), .lit (.int .u8 1), .lit (.int .u8 1), .lit (.int .u8 1), .lit (.int .u8 1), .lit (.int .u8 1), .lit (.int .u8 1), .lit (.int .u8 1), .lit (.int .u8 1), .lit (.int .u8 1), .lit (.int .u8 1), .lit (.int .u8 1), .lit (.int .u8 1), .lit (.int .u8 1), .lit (.int .u8 1), .lit (.int .u8 1), .lit (.int .u8 1), .lit (.int .u8 1), .lit (.int .u8 1), .lit (.int .u8 1), .lit (.int .u8 1), .lit (.int .u8 1), .lit (.int .u8 1), .lit (.int .u8 1), .lit (.int .u8 1), .lit (.int .u8 0), .lit (.int .u8 0), .lit (.int .u8 0), .lit (.int .u8 0), .lit (.int .u8 1), .lit (.int .u8 0), .lit (.int .u8 1), .lit (.int .u8 1), .lit (.int .u8 1), .lit (.int .u8 1), .lit (.int .u8 1), .lit (.int .u8 1), .lit (.int .u8 1), .lit (.int .u8 1), .lit (.int .u8 1), .lit (.int .u8 1), .lit (.int .u8 1), .lit (.int .u8 1), .lit (.int .u8 1), .lit (.int .u8 1), .lit (.int .u8 1), .lit (.int .u8 1), .lit (.int .u8 1), .lit (.int .u8 1), .lit (.int .u8 1), .lit (.int .u8 1), .lit (.int .u8 1), .lit (.int .u8 1), .lit (.int .u8 1), .lit (.int .u8 1), .lit (.int .u8 1), .lit (.int .u8 1), .lit (.int .u8 0), .lit (.int .u8 0), .lit (.int .u8 0), .lit (.int .u8 0), .lit (.int .u8 0)]
/-- One of Go's own tables, pinned by name: the form's constant. -/
def laid_unicode_utf8_first : DataW Unit := Go.Pinned.utf8First

/-- 'heraldlaw4.TreeLoaded': WHATEVER THE INPUT: true; the input reads as it did. -/
def treeLoadedSpec : ChangeSpec := { name := "treeLoaded", fn := fun _ => fun
  | [d1, d2] => { results := [.lit (.bool true)], args := [d1, d2] }
  | _ => none }
def treeLoadedRow : OpenClaim := { program := "ytiikjcdjgmlcgaagreatdoor", sum := "b980f3a0a442bf666bdd657587f6741fc037792bdc39f681bef03d1e2a800ef0", func := "herald/heraldlaw4.TreeLoaded", spec := "treeLoaded", inPlace := ["internal/bytealg.CountString", "internal/bytealg.IndexByteString", "internal/bytealg.IndexString", "internal/abi.NoEscape", "internal/bytealg.MakeNoZero", "maps.clone"], unfollowed := true, recurses := true, named := ["unicode/utf8.first", "unicode/utf8.acceptRanges", "internal/bytealg.MaxLen", "herald/place.named", "internal/strconv.uint64pow10", "math/bits.deBruijn32tab", "math/bits.deBruijn64tab"], apart := false, laid := [("math/bits.deBruijn32tab", laid_math_bits_deBruijn32tab), ("math/bits.deBruijn64tab", laid_math_bits_deBruijn64tab), ("internal/strconv.uint64pow10", laid_internal_strconv_uint64pow10), ("unicode/utf8.acceptRanges", laid_unicode_utf8_acceptRanges), ("herald/place.named", laid_herald_place_named), ("unicode/utf8.first", laid_unicode_utf8_first)] }
def TreeLoadedSaid : Prop := treeLoadedRow.holds Tryz.pinned (OpenSpec.ofChange treeLoadedSpec)

/-- ITS FALSE NEIGHBOUR: 'it returns false'. Refute it at one input. -/
def treeLoadedWrong : ChangeSpec := { name := "treeLoaded", fn := fun _ => fun
  | [d1, d2] => { results := [.lit (.bool false)], args := [d1, d2] }
  | _ => none }
def TreeLoadedWrongFalsely : Prop := treeLoadedRow.holds Tryz.pinned (OpenSpec.ofChange treeLoadedWrong)

/-- 'heraldlaw4.TreeTells': WHATEVER THE INPUT: true; the input reads as it did. -/
def treeTellsSpec : ChangeSpec := { name := "treeTells", fn := fun _ => fun
  | [d] => { results := [.lit (.bool true)], args := [d] }
  | _ => none }
def treeTellsRow : OpenClaim := { program := "ytiikjcdjgmlcgaagreatdoor", sum := "b980f3a0a442bf666bdd657587f6741fc037792bdc39f681bef03d1e2a800ef0", func := "herald/heraldlaw4.TreeTells", spec := "treeTells", inPlace := ["internal/bytealg.CountString", "internal/bytealg.IndexByteString", "internal/bytealg.IndexString", "maps.clone", "internal/abi.NoEscape", "internal/bytealg.MakeNoZero"], unfollowed := true, recurses := true, named := ["unicode/utf8.first", "unicode/utf8.acceptRanges", "internal/bytealg.MaxLen", "herald/place.named", "internal/strconv.uint64pow10", "math/bits.deBruijn32tab", "math/bits.deBruijn64tab"], apart := false, laid := [("math/bits.deBruijn32tab", laid_math_bits_deBruijn32tab), ("math/bits.deBruijn64tab", laid_math_bits_deBruijn64tab), ("internal/strconv.uint64pow10", laid_internal_strconv_uint64pow10), ("unicode/utf8.acceptRanges", laid_unicode_utf8_acceptRanges), ("herald/place.named", laid_herald_place_named), ("unicode/utf8.first", laid_unicode_utf8_first)] }
def TreeTellsSaid : Prop := treeTellsRow.holds Tryz.pinned (OpenSpec.ofChange treeTellsSpec)

/-- ITS FALSE NEIGHBOUR: 'it returns false'. Refute it at one input. -/
def treeTellsWrong : ChangeSpec := { name := "treeTells", fn := fun _ => fun
  | [d] => { results := [.lit (.bool false)], args := [d] }
  | _ => none }
def TreeTellsWrongFalsely : Prop := treeTellsRow.holds Tryz.pinned (OpenSpec.ofChange treeTellsWrong)

/-- 'heraldlaw4.TreePart': WHATEVER THE INPUT: true; the input reads as it did. -/
def treePartSpec : ChangeSpec := { name := "treePart", fn := fun _ => fun
  | [d1, d2] => { results := [.lit (.bool true)], args := [d1, d2] }
  | _ => none }
def treePartRow : OpenClaim := { program := "ytiikjcdjgmlcgaagreatdoor", sum := "b980f3a0a442bf666bdd657587f6741fc037792bdc39f681bef03d1e2a800ef0", func := "herald/heraldlaw4.TreePart", spec := "treePart", inPlace := ["maps.clone", "internal/bytealg.CountString", "internal/bytealg.IndexByteString", "internal/bytealg.IndexString", "internal/abi.NoEscape", "internal/bytealg.MakeNoZero"], unfollowed := true, recurses := true, named := ["unicode/utf8.first", "unicode/utf8.acceptRanges", "internal/bytealg.MaxLen", "herald/place.named", "internal/strconv.uint64pow10", "math/bits.deBruijn32tab", "math/bits.deBruijn64tab"], apart := false, laid := [("math/bits.deBruijn32tab", laid_math_bits_deBruijn32tab), ("math/bits.deBruijn64tab", laid_math_bits_deBruijn64tab), ("internal/strconv.uint64pow10", laid_internal_strconv_uint64pow10), ("unicode/utf8.acceptRanges", laid_unicode_utf8_acceptRanges), ("herald/place.named", laid_herald_place_named), ("unicode/utf8.first", laid_unicode_utf8_first)] }
def TreePartSaid : Prop := treePartRow.holds Tryz.pinned (OpenSpec.ofChange treePartSpec)

/-- ITS FALSE NEIGHBOUR: 'it returns false'. Refute it at one input. -/
def treePartWrong : ChangeSpec := { name := "treePart", fn := fun _ => fun
  | [d1, d2] => { results := [.lit (.bool false)], args := [d1, d2] }
  | _ => none }
def TreePartWrongFalsely : Prop := treePartRow.holds Tryz.pinned (OpenSpec.ofChange treePartWrong)

/-- 'heraldlaw4.TreeOwn': WHATEVER THE INPUT: true; the input reads as it did. -/
def treeOwnSpec : ChangeSpec := { name := "treeOwn", fn := fun _ => fun
  | [d] => { results := [.lit (.bool true)], args := [d] }
  | _ => none }
def treeOwnRow : OpenClaim := { program := "ytiikjcdjgmlcgaagreatdoor", sum := "b980f3a0a442bf666bdd657587f6741fc037792bdc39f681bef03d1e2a800ef0", func := "herald/heraldlaw4.TreeOwn", spec := "treeOwn", inPlace := ["maps.clone", "internal/bytealg.CountString", "internal/bytealg.IndexByteString", "internal/bytealg.IndexString", "internal/abi.NoEscape", "internal/bytealg.MakeNoZero"], unfollowed := true, recurses := true, named := ["unicode/utf8.first", "unicode/utf8.acceptRanges", "internal/bytealg.MaxLen", "herald/place.named", "internal/strconv.uint64pow10", "math/bits.deBruijn32tab", "math/bits.deBruijn64tab"], apart := false, laid := [("math/bits.deBruijn32tab", laid_math_bits_deBruijn32tab), ("math/bits.deBruijn64tab", laid_math_bits_deBruijn64tab), ("internal/strconv.uint64pow10", laid_internal_strconv_uint64pow10), ("unicode/utf8.acceptRanges", laid_unicode_utf8_acceptRanges), ("herald/place.named", laid_herald_place_named), ("unicode/utf8.first", laid_unicode_utf8_first)] }
def TreeOwnSaid : Prop := treeOwnRow.holds Tryz.pinned (OpenSpec.ofChange treeOwnSpec)

/-- ITS FALSE NEIGHBOUR: 'it returns false'. Refute it at one input. -/
def treeOwnWrong : ChangeSpec := { name := "treeOwn", fn := fun _ => fun
  | [d] => { results := [.lit (.bool false)], args := [d] }
  | _ => none }
def TreeOwnWrongFalsely : Prop := treeOwnRow.holds Tryz.pinned (OpenSpec.ofChange treeOwnWrong)

/-- 'heraldlaw4.TreePlays': WHATEVER THE INPUT: true; the input reads as it did. -/
def treePlaysSpec : ChangeSpec := { name := "treePlays", fn := fun _ => fun
  | [d] => { results := [.lit (.bool true)], args := [d] }
  | _ => none }
def treePlaysRow : OpenClaim := { program := "ytiikjcdjgmlcgaagreatdoor", sum := "b980f3a0a442bf666bdd657587f6741fc037792bdc39f681bef03d1e2a800ef0", func := "herald/heraldlaw4.TreePlays", spec := "treePlays", inPlace := ["maps.clone", "internal/bytealg.CountString", "internal/bytealg.IndexByteString", "internal/bytealg.IndexString", "internal/abi.NoEscape", "internal/bytealg.MakeNoZero"], unfollowed := true, recurses := true, named := ["unicode/utf8.first", "unicode/utf8.acceptRanges", "internal/bytealg.MaxLen", "herald/place.named", "internal/strconv.uint64pow10", "math/bits.deBruijn32tab", "math/bits.deBruijn64tab"], apart := false, laid := [("math/bits.deBruijn32tab", laid_math_bits_deBruijn32tab), ("math/bits.deBruijn64tab", laid_math_bits_deBruijn64tab), ("internal/strconv.uint64pow10", laid_internal_strconv_uint64pow10), ("unicode/utf8.acceptRanges", laid_unicode_utf8_acceptRanges), ("herald/place.named", laid_herald_place_named), ("unicode/utf8.first", laid_unicode_utf8_first)] }
def TreePlaysSaid : Prop := treePlaysRow.holds Tryz.pinned (OpenSpec.ofChange treePlaysSpec)

/-- ITS FALSE NEIGHBOUR: 'it returns false'. Refute it at one input. -/
def treePlaysWrong : ChangeSpec := { name := "treePlays", fn := fun _ => fun
  | [d] => { results := [.lit (.bool false)], args := [d] }
  | _ => none }
def TreePlaysWrongFalsely : Prop := treePlaysRow.holds Tryz.pinned (OpenSpec.ofChange treePlaysWrong)

/-- 'heraldlaw4.TreeEnds': WHATEVER THE INPUT: true; the input reads as it did. -/
def treeEndsSpec : ChangeSpec := { name := "treeEnds", fn := fun _ => fun
  | [d] => { results := [.lit (.bool true)], args := [d] }
  | _ => none }
def treeEndsRow : OpenClaim := { program := "ytiikjcdjgmlcgaagreatdoor", sum := "b980f3a0a442bf666bdd657587f6741fc037792bdc39f681bef03d1e2a800ef0", func := "herald/heraldlaw4.TreeEnds", spec := "treeEnds", inPlace := ["maps.clone", "internal/bytealg.CountString", "internal/bytealg.IndexByteString", "internal/bytealg.IndexString", "internal/abi.NoEscape", "internal/bytealg.MakeNoZero"], unfollowed := true, recurses := true, named := ["unicode/utf8.first", "unicode/utf8.acceptRanges", "internal/bytealg.MaxLen", "herald/place.named", "internal/strconv.uint64pow10", "math/bits.deBruijn32tab", "math/bits.deBruijn64tab"], apart := false, laid := [("math/bits.deBruijn32tab", laid_math_bits_deBruijn32tab), ("math/bits.deBruijn64tab", laid_math_bits_deBruijn64tab), ("internal/strconv.uint64pow10", laid_internal_strconv_uint64pow10), ("unicode/utf8.acceptRanges", laid_unicode_utf8_acceptRanges), ("herald/place.named", laid_herald_place_named), ("unicode/utf8.first", laid_unicode_utf8_first)] }
def TreeEndsSaid : Prop := treeEndsRow.holds Tryz.pinned (OpenSpec.ofChange treeEndsSpec)

/-- ITS FALSE NEIGHBOUR: 'it returns false'. Refute it at one input. -/
def treeEndsWrong : ChangeSpec := { name := "treeEnds", fn := fun _ => fun
  | [d] => { results := [.lit (.bool false)], args := [d] }
  | _ => none }
def TreeEndsWrongFalsely : Prop := treeEndsRow.holds Tryz.pinned (OpenSpec.ofChange treeEndsWrong)

/-- 'heraldlaw4.TreeParts': WHATEVER THE INPUT: true; the input reads as it did. -/
def treePartsSpec : ChangeSpec := { name := "treeParts", fn := fun _ => fun
  | [d] => { results := [.lit (.bool true)], args := [d] }
  | _ => none }
def treePartsRow : OpenClaim := { program := "ytiikjcdjgmlcgaagreatdoor", sum := "b980f3a0a442bf666bdd657587f6741fc037792bdc39f681bef03d1e2a800ef0", func := "herald/heraldlaw4.TreeParts", spec := "treeParts", inPlace := ["maps.clone", "internal/bytealg.CountString", "internal/bytealg.IndexByteString", "internal/bytealg.IndexString", "internal/abi.NoEscape", "internal/bytealg.MakeNoZero"], unfollowed := true, recurses := true, named := ["unicode/utf8.first", "unicode/utf8.acceptRanges", "internal/bytealg.MaxLen", "herald/place.named", "internal/strconv.uint64pow10", "math/bits.deBruijn32tab", "math/bits.deBruijn64tab"], apart := false, laid := [("math/bits.deBruijn32tab", laid_math_bits_deBruijn32tab), ("math/bits.deBruijn64tab", laid_math_bits_deBruijn64tab), ("internal/strconv.uint64pow10", laid_internal_strconv_uint64pow10), ("unicode/utf8.acceptRanges", laid_unicode_utf8_acceptRanges), ("herald/place.named", laid_herald_place_named), ("unicode/utf8.first", laid_unicode_utf8_first)] }
def TreePartsSaid : Prop := treePartsRow.holds Tryz.pinned (OpenSpec.ofChange treePartsSpec)

/-- ITS FALSE NEIGHBOUR: 'it returns false'. Refute it at one input. -/
def treePartsWrong : ChangeSpec := { name := "treeParts", fn := fun _ => fun
  | [d] => { results := [.lit (.bool false)], args := [d] }
  | _ => none }
def TreePartsWrongFalsely : Prop := treePartsRow.holds Tryz.pinned (OpenSpec.ofChange treePartsWrong)

/-- 'heraldlaw4.TreeNodes': WHATEVER THE INPUT: true; the input reads as it did. -/
def treeNodesSpec : ChangeSpec := { name := "treeNodes", fn := fun _ => fun
  | [d] => { results := [.lit (.bool true)], args := [d] }
  | _ => none }
def treeNodesRow : OpenClaim := { program := "ytiikjcdjgmlcgaagreatdoor", sum := "b980f3a0a442bf666bdd657587f6741fc037792bdc39f681bef03d1e2a800ef0", func := "herald/heraldlaw4.TreeNodes", spec := "treeNodes", inPlace := ["maps.clone", "internal/bytealg.CountString", "internal/bytealg.IndexByteString", "internal/bytealg.IndexString", "internal/abi.NoEscape", "internal/bytealg.MakeNoZero"], unfollowed := true, recurses := true, named := ["unicode/utf8.first", "unicode/utf8.acceptRanges", "internal/bytealg.MaxLen", "herald/place.named", "internal/strconv.uint64pow10", "math/bits.deBruijn32tab", "math/bits.deBruijn64tab"], apart := false, laid := [("math/bits.deBruijn32tab", laid_math_bits_deBruijn32tab), ("math/bits.deBruijn64tab", laid_math_bits_deBruijn64tab), ("internal/strconv.uint64pow10", laid_internal_strconv_uint64pow10), ("unicode/utf8.acceptRanges", laid_unicode_utf8_acceptRanges), ("herald/place.named", laid_herald_place_named), ("unicode/utf8.first", laid_unicode_utf8_first)] }
def TreeNodesSaid : Prop := treeNodesRow.holds Tryz.pinned (OpenSpec.ofChange treeNodesSpec)

/-- ITS FALSE NEIGHBOUR: 'it returns false'. Refute it at one input. -/
def treeNodesWrong : ChangeSpec := { name := "treeNodes", fn := fun _ => fun
  | [d] => { results := [.lit (.bool false)], args := [d] }
  | _ => none }
def TreeNodesWrongFalsely : Prop := treeNodesRow.holds Tryz.pinned (OpenSpec.ofChange treeNodesWrong)

/-- 'heraldlaw4.TreeGoes': WHATEVER THE INPUT: true; the input reads as it did. -/
def treeGoesSpec : ChangeSpec := { name := "treeGoes", fn := fun _ => fun
  | [d] => { results := [.lit (.bool true)], args := [d] }
  | _ => none }
def treeGoesRow : OpenClaim := { program := "ytiikjcdjgmlcgaagreatdoor", sum := "b980f3a0a442bf666bdd657587f6741fc037792bdc39f681bef03d1e2a800ef0", func := "herald/heraldlaw4.TreeGoes", spec := "treeGoes", inPlace := ["maps.clone", "internal/bytealg.CountString", "internal/bytealg.IndexByteString", "internal/bytealg.IndexString", "internal/abi.NoEscape", "internal/bytealg.MakeNoZero"], unfollowed := true, recurses := true, named := ["unicode/utf8.first", "unicode/utf8.acceptRanges", "internal/bytealg.MaxLen", "herald/place.named", "internal/strconv.uint64pow10", "math/bits.deBruijn32tab", "math/bits.deBruijn64tab"], apart := false, laid := [("math/bits.deBruijn32tab", laid_math_bits_deBruijn32tab), ("math/bits.deBruijn64tab", laid_math_bits_deBruijn64tab), ("internal/strconv.uint64pow10", laid_internal_strconv_uint64pow10), ("unicode/utf8.acceptRanges", laid_unicode_utf8_acceptRanges), ("herald/place.named", laid_herald_place_named), ("unicode/utf8.first", laid_unicode_utf8_first)] }
def TreeGoesSaid : Prop := treeGoesRow.holds Tryz.pinned (OpenSpec.ofChange treeGoesSpec)

/-- ITS FALSE NEIGHBOUR: 'it returns false'. Refute it at one input. -/
def treeGoesWrong : ChangeSpec := { name := "treeGoes", fn := fun _ => fun
  | [d] => { results := [.lit (.bool false)], args := [d] }
  | _ => none }
def TreeGoesWrongFalsely : Prop := treeGoesRow.holds Tryz.pinned (OpenSpec.ofChange treeGoesWrong)

/-- 'heraldlaw4.TreeLoads': WHATEVER THE INPUT: true; the input reads as it did. -/
def treeLoadsSpec : ChangeSpec := { name := "treeLoads", fn := fun _ => fun
  | [d1, d2] => { results := [.lit (.bool true)], args := [d1, d2] }
  | _ => none }
def treeLoadsRow : OpenClaim := { program := "ytiikjcdjgmlcgaagreatdoor", sum := "b980f3a0a442bf666bdd657587f6741fc037792bdc39f681bef03d1e2a800ef0", func := "herald/heraldlaw4.TreeLoads", spec := "treeLoads", inPlace := ["internal/bytealg.CountString", "internal/bytealg.IndexByteString", "internal/bytealg.IndexString", "internal/abi.NoEscape", "internal/bytealg.MakeNoZero", "maps.clone"], unfollowed := true, recurses := true, named := ["unicode/utf8.first", "unicode/utf8.acceptRanges", "internal/bytealg.MaxLen", "herald/place.named", "internal/strconv.uint64pow10", "math/bits.deBruijn32tab", "math/bits.deBruijn64tab"], apart := false, laid := [("math/bits.deBruijn32tab", laid_math_bits_deBruijn32tab), ("math/bits.deBruijn64tab", laid_math_bits_deBruijn64tab), ("internal/strconv.uint64pow10", laid_internal_strconv_uint64pow10), ("unicode/utf8.acceptRanges", laid_unicode_utf8_acceptRanges), ("herald/place.named", laid_herald_place_named), ("unicode/utf8.first", laid_unicode_utf8_first)] }
def TreeLoadsSaid : Prop := treeLoadsRow.holds Tryz.pinned (OpenSpec.ofChange treeLoadsSpec)

/-- ITS FALSE NEIGHBOUR: 'it returns false'. Refute it at one input. -/
def treeLoadsWrong : ChangeSpec := { name := "treeLoads", fn := fun _ => fun
  | [d1, d2] => { results := [.lit (.bool false)], args := [d1, d2] }
  | _ => none }
def TreeLoadsWrongFalsely : Prop := treeLoadsRow.holds Tryz.pinned (OpenSpec.ofChange treeLoadsWrong)

/-- 'heraldlaw4.TreeTwo': WHATEVER THE INPUT: true; the input reads as it did. -/
def treeTwoSpec : ChangeSpec := { name := "treeTwo", fn := fun _ => fun
  | [d] => { results := [.lit (.bool true)], args := [d] }
  | _ => none }
def treeTwoRow : OpenClaim := { program := "ytiikjcdjgmlcgaagreatdoor", sum := "b980f3a0a442bf666bdd657587f6741fc037792bdc39f681bef03d1e2a800ef0", func := "herald/heraldlaw4.TreeTwo", spec := "treeTwo", inPlace := ["maps.clone", "internal/bytealg.CountString", "internal/bytealg.IndexByteString", "internal/bytealg.IndexString", "internal/abi.NoEscape", "internal/bytealg.MakeNoZero"], unfollowed := true, recurses := true, named := ["unicode/utf8.first", "unicode/utf8.acceptRanges", "internal/bytealg.MaxLen", "herald/place.named", "internal/strconv.uint64pow10", "math/bits.deBruijn32tab", "math/bits.deBruijn64tab"], apart := false, laid := [("math/bits.deBruijn32tab", laid_math_bits_deBruijn32tab), ("math/bits.deBruijn64tab", laid_math_bits_deBruijn64tab), ("internal/strconv.uint64pow10", laid_internal_strconv_uint64pow10), ("unicode/utf8.acceptRanges", laid_unicode_utf8_acceptRanges), ("herald/place.named", laid_herald_place_named), ("unicode/utf8.first", laid_unicode_utf8_first)] }
def TreeTwoSaid : Prop := treeTwoRow.holds Tryz.pinned (OpenSpec.ofChange treeTwoSpec)

/-- ITS FALSE NEIGHBOUR: 'it returns false'. Refute it at one input. -/
def treeTwoWrong : ChangeSpec := { name := "treeTwo", fn := fun _ => fun
  | [d] => { results := [.lit (.bool false)], args := [d] }
  | _ => none }
def TreeTwoWrongFalsely : Prop := treeTwoRow.holds Tryz.pinned (OpenSpec.ofChange treeTwoWrong)

/-- 'heraldlaw4.TreeNothing': WHATEVER THE INPUT: true; the input reads as it did. -/
def treeNothingSpec : ChangeSpec := { name := "treeNothing", fn := fun _ => fun
  | [d] => { results := [.lit (.bool true)], args := [d] }
  | _ => none }
def treeNothingRow : OpenClaim := { program := "ytiikjcdjgmlcgaagreatdoor", sum := "b980f3a0a442bf666bdd657587f6741fc037792bdc39f681bef03d1e2a800ef0", func := "herald/heraldlaw4.TreeNothing", spec := "treeNothing", inPlace := ["maps.clone", "internal/bytealg.CountString", "internal/bytealg.IndexByteString", "internal/bytealg.IndexString", "internal/abi.NoEscape", "internal/bytealg.MakeNoZero"], unfollowed := true, recurses := true, named := ["unicode/utf8.first", "unicode/utf8.acceptRanges", "internal/bytealg.MaxLen", "herald/place.named", "internal/strconv.uint64pow10", "math/bits.deBruijn32tab", "math/bits.deBruijn64tab"], apart := false, laid := [("math/bits.deBruijn32tab", laid_math_bits_deBruijn32tab), ("math/bits.deBruijn64tab", laid_math_bits_deBruijn64tab), ("internal/strconv.uint64pow10", laid_internal_strconv_uint64pow10), ("unicode/utf8.acceptRanges", laid_unicode_utf8_acceptRanges), ("herald/place.named", laid_herald_place_named), ("unicode/utf8.first", laid_unicode_utf8_first)] }
def TreeNothingSaid : Prop := treeNothingRow.holds Tryz.pinned (OpenSpec.ofChange treeNothingSpec)

/-- ITS FALSE NEIGHBOUR: 'it returns false'. Refute it at one input. -/
def treeNothingWrong : ChangeSpec := { name := "treeNothing", fn := fun _ => fun
  | [d] => { results := [.lit (.bool false)], args := [d] }
  | _ => none }
def TreeNothingWrongFalsely : Prop := treeNothingRow.holds Tryz.pinned (OpenSpec.ofChange treeNothingWrong)

/- THE SECOND FORM. 'bulk': how many values and letters a reading holds, each counted each time it is reached (what is shared counts as often as it is met; a slice's spare places count too). A statement '..UptoSaid' is the law's where the arguments, and the package variables that the reading takes, are together of bulk at most 1048576: NARROWER than '..Said'. Prove '..Said' where nothing that the law and all that it calls make is longer than what came in: it says more and counts as full. Else prove '..UptoSaid'. A law counts once. -/
mutual
def uptoBulk {H : Type} : DataW H → Nat
  | .lit (.string bytes) => bytes.length + 1
  | .lit _ => 1
  | .nil => 1
  | .ptr d => uptoBulk d + 1
  | .slice elems spare => uptoBulkAll elems + uptoBulkAll spare + 1
  | .agg parts => uptoBulkAll parts + 1
  | .iface _ d => uptoBulk d + 1
  | .map entries => uptoBulkEntries entries + 1
  | .held _ => 1
def uptoBulkAll {H : Type} : List (DataW H) → Nat
  | [] => 0
  | d :: r => uptoBulk d + uptoBulkAll r
def uptoBulkEntries {H : Type} : List (Lit × DataW H) → Nat
  | [] => 0
  | x :: r => uptoBulkEntry x + uptoBulkEntries r
def uptoBulkEntry {H : Type} : Lit × DataW H → Nat
  | (.string bytes, d) => bytes.length + uptoBulk d + 1
  | (_, d) => uptoBulk d + 1
 end
def uptoSmall : (H : Type) → List (DataW H) → Bool := fun _ ds => decide (uptoBulkAll ds ≤ 1048576)
def OpenSpec.upto (s : _root_.Go.ChangeSpec) : _root_.Go.OpenSpec := { _root_.Go.OpenSpec.ofChange s with cond := some uptoSmall }

/-- 'heraldlaw4.TreeLoaded', WHERE WHAT IT READS IS OF BULK AT MOST 1048576: true; the input reads as it did. -/
def treeLoadedUptoRow : OpenClaim := { program := "ytiikjcdjgmlcgaagreatdoor", sum := "b980f3a0a442bf666bdd657587f6741fc037792bdc39f681bef03d1e2a800ef0", func := "herald/heraldlaw4.TreeLoaded", spec := "treeLoaded", inPlace := ["internal/bytealg.CountString", "internal/bytealg.IndexByteString", "internal/bytealg.IndexString", "internal/abi.NoEscape", "internal/bytealg.MakeNoZero", "maps.clone"], unfollowed := true, recurses := true, named := ["unicode/utf8.first", "unicode/utf8.acceptRanges", "internal/bytealg.MaxLen", "herald/place.named", "internal/strconv.uint64pow10", "math/bits.deBruijn32tab", "math/bits.deBruijn64tab"], apart := false, laid := [("math/bits.deBruijn32tab", laid_math_bits_deBruijn32tab), ("math/bits.deBruijn64tab", laid_math_bits_deBruijn64tab), ("internal/strconv.uint64pow10", laid_internal_strconv_uint64pow10), ("unicode/utf8.acceptRanges", laid_unicode_utf8_acceptRanges), ("herald/place.named", laid_herald_place_named), ("unicode/utf8.first", laid_unicode_utf8_first)], narrowed := true }
def TreeLoadedUptoSaid : Prop := treeLoadedUptoRow.holds Tryz.pinned (OpenSpec.upto treeLoadedSpec)

/-- 'heraldlaw4.TreeTells', WHERE WHAT IT READS IS OF BULK AT MOST 1048576: true; the input reads as it did. -/
def treeTellsUptoRow : OpenClaim := { program := "ytiikjcdjgmlcgaagreatdoor", sum := "b980f3a0a442bf666bdd657587f6741fc037792bdc39f681bef03d1e2a800ef0", func := "herald/heraldlaw4.TreeTells", spec := "treeTells", inPlace := ["internal/bytealg.CountString", "internal/bytealg.IndexByteString", "internal/bytealg.IndexString", "maps.clone", "internal/abi.NoEscape", "internal/bytealg.MakeNoZero"], unfollowed := true, recurses := true, named := ["unicode/utf8.first", "unicode/utf8.acceptRanges", "internal/bytealg.MaxLen", "herald/place.named", "internal/strconv.uint64pow10", "math/bits.deBruijn32tab", "math/bits.deBruijn64tab"], apart := false, laid := [("math/bits.deBruijn32tab", laid_math_bits_deBruijn32tab), ("math/bits.deBruijn64tab", laid_math_bits_deBruijn64tab), ("internal/strconv.uint64pow10", laid_internal_strconv_uint64pow10), ("unicode/utf8.acceptRanges", laid_unicode_utf8_acceptRanges), ("herald/place.named", laid_herald_place_named), ("unicode/utf8.first", laid_unicode_utf8_first)], narrowed := true }
def TreeTellsUptoSaid : Prop := treeTellsUptoRow.holds Tryz.pinned (OpenSpec.upto treeTellsSpec)

/-- 'heraldlaw4.TreePart', WHERE WHAT IT READS IS OF BULK AT MOST 1048576: true; the input reads as it did. -/
def treePartUptoRow : OpenClaim := { program := "ytiikjcdjgmlcgaagreatdoor", sum := "b980f3a0a442bf666bdd657587f6741fc037792bdc39f681bef03d1e2a800ef0", func := "herald/heraldlaw4.TreePart", spec := "treePart", inPlace := ["maps.clone", "internal/bytealg.CountString", "internal/bytealg.IndexByteString", "internal/bytealg.IndexString", "internal/abi.NoEscape", "internal/bytealg.MakeNoZero"], unfollowed := true, recurses := true, named := ["unicode/utf8.first", "unicode/utf8.acceptRanges", "internal/bytealg.MaxLen", "herald/place.named", "internal/strconv.uint64pow10", "math/bits.deBruijn32tab", "math/bits.deBruijn64tab"], apart := false, laid := [("math/bits.deBruijn32tab", laid_math_bits_deBruijn32tab), ("math/bits.deBruijn64tab", laid_math_bits_deBruijn64tab), ("internal/strconv.uint64pow10", laid_internal_strconv_uint64pow10), ("unicode/utf8.acceptRanges", laid_unicode_utf8_acceptRanges), ("herald/place.named", laid_herald_place_named), ("unicode/utf8.first", laid_unicode_utf8_first)], narrowed := true }
def TreePartUptoSaid : Prop := treePartUptoRow.holds Tryz.pinned (OpenSpec.upto treePartSpec)

/-- 'heraldlaw4.TreeOwn', WHERE WHAT IT READS IS OF BULK AT MOST 1048576: true; the input reads as it did. -/
def treeOwnUptoRow : OpenClaim := { program := "ytiikjcdjgmlcgaagreatdoor", sum := "b980f3a0a442bf666bdd657587f6741fc037792bdc39f681bef03d1e2a800ef0", func := "herald/heraldlaw4.TreeOwn", spec := "treeOwn", inPlace := ["maps.clone", "internal/bytealg.CountString", "internal/bytealg.IndexByteString", "internal/bytealg.IndexString", "internal/abi.NoEscape", "internal/bytealg.MakeNoZero"], unfollowed := true, recurses := true, named := ["unicode/utf8.first", "unicode/utf8.acceptRanges", "internal/bytealg.MaxLen", "herald/place.named", "internal/strconv.uint64pow10", "math/bits.deBruijn32tab", "math/bits.deBruijn64tab"], apart := false, laid := [("math/bits.deBruijn32tab", laid_math_bits_deBruijn32tab), ("math/bits.deBruijn64tab", laid_math_bits_deBruijn64tab), ("internal/strconv.uint64pow10", laid_internal_strconv_uint64pow10), ("unicode/utf8.acceptRanges", laid_unicode_utf8_acceptRanges), ("herald/place.named", laid_herald_place_named), ("unicode/utf8.first", laid_unicode_utf8_first)], narrowed := true }
def TreeOwnUptoSaid : Prop := treeOwnUptoRow.holds Tryz.pinned (OpenSpec.upto treeOwnSpec)

/-- 'heraldlaw4.TreePlays', WHERE WHAT IT READS IS OF BULK AT MOST 1048576: true; the input reads as it did. -/
def treePlaysUptoRow : OpenClaim := { program := "ytiikjcdjgmlcgaagreatdoor", sum := "b980f3a0a442bf666bdd657587f6741fc037792bdc39f681bef03d1e2a800ef0", func := "herald/heraldlaw4.TreePlays", spec := "treePlays", inPlace := ["maps.clone", "internal/bytealg.CountString", "internal/bytealg.IndexByteString", "internal/bytealg.IndexString", "internal/abi.NoEscape", "internal/bytealg.MakeNoZero"], unfollowed := true, recurses := true, named := ["unicode/utf8.first", "unicode/utf8.acceptRanges", "internal/bytealg.MaxLen", "herald/place.named", "internal/strconv.uint64pow10", "math/bits.deBruijn32tab", "math/bits.deBruijn64tab"], apart := false, laid := [("math/bits.deBruijn32tab", laid_math_bits_deBruijn32tab), ("math/bits.deBruijn64tab", laid_math_bits_deBruijn64tab), ("internal/strconv.uint64pow10", laid_internal_strconv_uint64pow10), ("unicode/utf8.acceptRanges", laid_unicode_utf8_acceptRanges), ("herald/place.named", laid_herald_place_named), ("unicode/utf8.first", laid_unicode_utf8_first)], narrowed := true }
def TreePlaysUptoSaid : Prop := treePlaysUptoRow.holds Tryz.pinned (OpenSpec.upto treePlaysSpec)

/-- 'heraldlaw4.TreeEnds', WHERE WHAT IT READS IS OF BULK AT MOST 1048576: true; the input reads as it did. -/
def treeEndsUptoRow : OpenClaim := { program := "ytiikjcdjgmlcgaagreatdoor", sum := "b980f3a0a442bf666bdd657587f6741fc037792bdc39f681bef03d1e2a800ef0", func := "herald/heraldlaw4.TreeEnds", spec := "treeEnds", inPlace := ["maps.clone", "internal/bytealg.CountString", "internal/bytealg.IndexByteString", "internal/bytealg.IndexString", "internal/abi.NoEscape", "internal/bytealg.MakeNoZero"], unfollowed := true, recurses := true, named := ["unicode/utf8.first", "unicode/utf8.acceptRanges", "internal/bytealg.MaxLen", "herald/place.named", "internal/strconv.uint64pow10", "math/bits.deBruijn32tab", "math/bits.deBruijn64tab"], apart := false, laid := [("math/bits.deBruijn32tab", laid_math_bits_deBruijn32tab), ("math/bits.deBruijn64tab", laid_math_bits_deBruijn64tab), ("internal/strconv.uint64pow10", laid_internal_strconv_uint64pow10), ("unicode/utf8.acceptRanges", laid_unicode_utf8_acceptRanges), ("herald/place.named", laid_herald_place_named), ("unicode/utf8.first", laid_unicode_utf8_first)], narrowed := true }
def TreeEndsUptoSaid : Prop := treeEndsUptoRow.holds Tryz.pinned (OpenSpec.upto treeEndsSpec)

/-- 'heraldlaw4.TreeParts', WHERE WHAT IT READS IS OF BULK AT MOST 1048576: true; the input reads as it did. -/
def treePartsUptoRow : OpenClaim := { program := "ytiikjcdjgmlcgaagreatdoor", sum := "b980f3a0a442bf666bdd657587f6741fc037792bdc39f681bef03d1e2a800ef0", func := "herald/heraldlaw4.TreeParts", spec := "treeParts", inPlace := ["maps.clone", "internal/bytealg.CountString", "internal/bytealg.IndexByteString", "internal/bytealg.IndexString", "internal/abi.NoEscape", "internal/bytealg.MakeNoZero"], unfollowed := true, recurses := true, named := ["unicode/utf8.first", "unicode/utf8.acceptRanges", "internal/bytealg.MaxLen", "herald/place.named", "internal/strconv.uint64pow10", "math/bits.deBruijn32tab", "math/bits.deBruijn64tab"], apart := false, laid := [("math/bits.deBruijn32tab", laid_math_bits_deBruijn32tab), ("math/bits.deBruijn64tab", laid_math_bits_deBruijn64tab), ("internal/strconv.uint64pow10", laid_internal_strconv_uint64pow10), ("unicode/utf8.acceptRanges", laid_unicode_utf8_acceptRanges), ("herald/place.named", laid_herald_place_named), ("unicode/utf8.first", laid_unicode_utf8_first)], narrowed := true }
def TreePartsUptoSaid : Prop := treePartsUptoRow.holds Tryz.pinned (OpenSpec.upto treePartsSpec)

/-- 'heraldlaw4.TreeNodes', WHERE WHAT IT READS IS OF BULK AT MOST 1048576: true; the input reads as it did. -/
def treeNodesUptoRow : OpenClaim := { program := "ytiikjcdjgmlcgaagreatdoor", sum := "b980f3a0a442bf666bdd657587f6741fc037792bdc39f681bef03d1e2a800ef0", func := "herald/heraldlaw4.TreeNodes", spec := "treeNodes", inPlace := ["maps.clone", "internal/bytealg.CountString", "internal/bytealg.IndexByteString", "internal/bytealg.IndexString", "internal/abi.NoEscape", "internal/bytealg.MakeNoZero"], unfollowed := true, recurses := true, named := ["unicode/utf8.first", "unicode/utf8.acceptRanges", "internal/bytealg.MaxLen", "herald/place.named", "internal/strconv.uint64pow10", "math/bits.deBruijn32tab", "math/bits.deBruijn64tab"], apart := false, laid := [("math/bits.deBruijn32tab", laid_math_bits_deBruijn32tab), ("math/bits.deBruijn64tab", laid_math_bits_deBruijn64tab), ("internal/strconv.uint64pow10", laid_internal_strconv_uint64pow10), ("unicode/utf8.acceptRanges", laid_unicode_utf8_acceptRanges), ("herald/place.named", laid_herald_place_named), ("unicode/utf8.first", laid_unicode_utf8_first)], narrowed := true }
def TreeNodesUptoSaid : Prop := treeNodesUptoRow.holds Tryz.pinned (OpenSpec.upto treeNodesSpec)

/-- 'heraldlaw4.TreeGoes', WHERE WHAT IT READS IS OF BULK AT MOST 1048576: true; the input reads as it did. -/
def treeGoesUptoRow : OpenClaim := { program := "ytiikjcdjgmlcgaagreatdoor", sum := "b980f3a0a442bf666bdd657587f6741fc037792bdc39f681bef03d1e2a800ef0", func := "herald/heraldlaw4.TreeGoes", spec := "treeGoes", inPlace := ["maps.clone", "internal/bytealg.CountString", "internal/bytealg.IndexByteString", "internal/bytealg.IndexString", "internal/abi.NoEscape", "internal/bytealg.MakeNoZero"], unfollowed := true, recurses := true, named := ["unicode/utf8.first", "unicode/utf8.acceptRanges", "internal/bytealg.MaxLen", "herald/place.named", "internal/strconv.uint64pow10", "math/bits.deBruijn32tab", "math/bits.deBruijn64tab"], apart := false, laid := [("math/bits.deBruijn32tab", laid_math_bits_deBruijn32tab), ("math/bits.deBruijn64tab", laid_math_bits_deBruijn64tab), ("internal/strconv.uint64pow10", laid_internal_strconv_uint64pow10), ("unicode/utf8.acceptRanges", laid_unicode_utf8_acceptRanges), ("herald/place.named", laid_herald_place_named), ("unicode/utf8.first", laid_unicode_utf8_first)], narrowed := true }
def TreeGoesUptoSaid : Prop := treeGoesUptoRow.holds Tryz.pinned (OpenSpec.upto treeGoesSpec)

/-- 'heraldlaw4.TreeLoads', WHERE WHAT IT READS IS OF BULK AT MOST 1048576: true; the input reads as it did. -/
def treeLoadsUptoRow : OpenClaim := { program := "ytiikjcdjgmlcgaagreatdoor", sum := "b980f3a0a442bf666bdd657587f6741fc037792bdc39f681bef03d1e2a800ef0", func := "herald/heraldlaw4.TreeLoads", spec := "treeLoads", inPlace := ["internal/bytealg.CountString", "internal/bytealg.IndexByteString", "internal/bytealg.IndexString", "internal/abi.NoEscape", "internal/bytealg.MakeNoZero", "maps.clone"], unfollowed := true, recurses := true, named := ["unicode/utf8.first", "unicode/utf8.acceptRanges", "internal/bytealg.MaxLen", "herald/place.named", "internal/strconv.uint64pow10", "math/bits.deBruijn32tab", "math/bits.deBruijn64tab"], apart := false, laid := [("math/bits.deBruijn32tab", laid_math_bits_deBruijn32tab), ("math/bits.deBruijn64tab", laid_math_bits_deBruijn64tab), ("internal/strconv.uint64pow10", laid_internal_strconv_uint64pow10), ("unicode/utf8.acceptRanges", laid_unicode_utf8_acceptRanges), ("herald/place.named", laid_herald_place_named), ("unicode/utf8.first", laid_unicode_utf8_first)], narrowed := true }
def TreeLoadsUptoSaid : Prop := treeLoadsUptoRow.holds Tryz.pinned (OpenSpec.upto treeLoadsSpec)

/-- 'heraldlaw4.TreeTwo', WHERE WHAT IT READS IS OF BULK AT MOST 1048576: true; the input reads as it did. -/
def treeTwoUptoRow : OpenClaim := { program := "ytiikjcdjgmlcgaagreatdoor", sum := "b980f3a0a442bf666bdd657587f6741fc037792bdc39f681bef03d1e2a800ef0", func := "herald/heraldlaw4.TreeTwo", spec := "treeTwo", inPlace := ["maps.clone", "internal/bytealg.CountString", "internal/bytealg.IndexByteString", "internal/bytealg.IndexString", "internal/abi.NoEscape", "internal/bytealg.MakeNoZero"], unfollowed := true, recurses := true, named := ["unicode/utf8.first", "unicode/utf8.acceptRanges", "internal/bytealg.MaxLen", "herald/place.named", "internal/strconv.uint64pow10", "math/bits.deBruijn32tab", "math/bits.deBruijn64tab"], apart := false, laid := [("math/bits.deBruijn32tab", laid_math_bits_deBruijn32tab), ("math/bits.deBruijn64tab", laid_math_bits_deBruijn64tab), ("internal/strconv.uint64pow10", laid_internal_strconv_uint64pow10), ("unicode/utf8.acceptRanges", laid_unicode_utf8_acceptRanges), ("herald/place.named", laid_herald_place_named), ("unicode/utf8.first", laid_unicode_utf8_first)], narrowed := true }
def TreeTwoUptoSaid : Prop := treeTwoUptoRow.holds Tryz.pinned (OpenSpec.upto treeTwoSpec)

/-- 'heraldlaw4.TreeNothing', WHERE WHAT IT READS IS OF BULK AT MOST 1048576: true; the input reads as it did. -/
def treeNothingUptoRow : OpenClaim := { program := "ytiikjcdjgmlcgaagreatdoor", sum := "b980f3a0a442bf666bdd657587f6741fc037792bdc39f681bef03d1e2a800ef0", func := "herald/heraldlaw4.TreeNothing", spec := "treeNothing", inPlace := ["maps.clone", "internal/bytealg.CountString", "internal/bytealg.IndexByteString", "internal/bytealg.IndexString", "internal/abi.NoEscape", "internal/bytealg.MakeNoZero"], unfollowed := true, recurses := true, named := ["unicode/utf8.first", "unicode/utf8.acceptRanges", "internal/bytealg.MaxLen", "herald/place.named", "internal/strconv.uint64pow10", "math/bits.deBruijn32tab", "math/bits.deBruijn64tab"], apart := false, laid := [("math/bits.deBruijn32tab", laid_math_bits_deBruijn32tab), ("math/bits.deBruijn64tab", laid_math_bits_deBruijn64tab), ("internal/strconv.uint64pow10", laid_internal_strconv_uint64pow10), ("unicode/utf8.acceptRanges", laid_unicode_utf8_acceptRanges), ("herald/place.named", laid_herald_place_named), ("unicode/utf8.first", laid_unicode_utf8_first)], narrowed := true }
def TreeNothingUptoSaid : Prop := treeNothingUptoRow.holds Tryz.pinned (OpenSpec.upto treeNothingSpec)

end Rows
end Go.Proofs.YtiikjcdjgmlcgaaGreatDoor
