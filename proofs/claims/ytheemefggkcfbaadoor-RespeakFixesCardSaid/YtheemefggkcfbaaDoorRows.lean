/-
  NARROWER THAN 'FOR EVERY INPUT', by the rows' own cells (each row's printed sentence says how): TokenSplits: laid · TokenStrengths: laid · TokenAdds: laid · TokenSpaces: laid · TokenWhole: laid · TokenChecks: laid · TokenAgain: laid · RespeakWords: laid · RespeakLimits: laid · RespeakFixes: laid · RespeakPlays: laid · RespeakClones: laid · RespeakOrder: laid.
  DERIVED. THE GIVEN ROWS OF THIS SEAT. 13 by the template 'for every input the law returns true; each argument reads behind the call as it read before'; 0 by the template 'total and deterministic' (their statements: YtheemefggkcfbaaDoorTotals.lean).
  GIVEN WITH THE SEED: the statements are not yours to turn. If you find one false, say at which input.
  Laid BY PROGRAM, IN A SANDBOX (cutbox-rows.mjs): the forced cells as the released guide's own fill.sh prints them over the translation 4e65b5c7243d0fc9… (all of the seat's roots in one cut). By AI agents, Wed Nov 11 2026. No macro, syntax, notation, axiom, sorry.
-/
import Derived.Test.YtheemefggkcfbaaDoorChecked
import GoSem.PinnedTables
import GoSem.Claim
import GoSem.ClaimJoined
import GoSem.ClaimMapViews
import Derived.JoinedTies
import Derived.KernelRfl
namespace Go.Proofs.YtheemefggkcfbaaDoor
/- THE CELL 'sum', in the pinned program and in every row, IS THE sha256 OF THE DUMP (.gsa) THAT YtheemefggkcfbaaDoorProg.lean LOADS. Nothing in Lean hashes anything: it is a label: what it is worth is what the hold of that sum in a sandbox is worth. -/
noncomputable def Tryd.pinned : Pinned := { name := "ytheemefggkcfbaadoor", sum := "4e65b5c7243d0fc9816c0c48777425bf36ce117e470f114494df5ec750dd9d39", checked := Tryd.checked }
namespace Rows
def none {H : Type} : Left H := { results := [], args := [] }

/- WHAT THE LISTED PACKAGE-LEVEL VARIABLES READ AS WHEN THE CALL BEGINS. Each datum BY PROGRAM (the guide's laid-datum.mjs) off the statement by which the dump's own 'gosem.cut.vars' lays the variable. In a bare row this is a premise. The card (YtheemefggkcfbaaDoorCards.lean) ties it to the program's text. -/
def laid_unicode_utf8_acceptRanges {H : Type} : DataW H := .agg [.agg [.lit (.int .u8 128), .lit (.int .u8 191)], .agg [.lit (.int .u8 160), .lit (.int .u8 191)], .agg [.lit (.int .u8 128), .lit (.int .u8 159)], .agg [.lit (.int .u8 144), .lit (.int .u8 191)], .agg [.lit (.int .u8 128), .lit (.int .u8 143)], .agg [.lit (.int .u8 0), .lit (.int .u8 0)], .agg [.lit (.int .u8 0), .lit (.int .u8 0)], .agg [.lit (.int .u8 0), .lit (.int .u8 0)], .agg [.lit (.int .u8 0), .lit (.int .u8 0)], .agg [.lit (.int .u8 0), .lit (.int .u8 0)], .agg [.lit (.int .u8 0), .lit (.int .u8 0)], .agg [.lit (.int .u8 0), .lit (.int .u8 0)], .agg [.lit (.int .u8 0), .lit (.int .u8 0)], .agg [.lit (.int .u8 0), .lit (.int .u8 0)], .agg [.lit (.int .u8 0), .lit (.int .u8 0)], .agg [.lit (.int .u8 0), .lit (.int .u8 0)]]
/-- One of Go's own tables, pinned by name: the form's constant. -/
def laid_unicode_utf8_first : DataW Unit := Go.Pinned.utf8First
def laid_unicode_White_Space {H : Type} : DataW H := .ptr (.agg [.slice [.agg [.lit (.int .u16 9), .lit (.int .u16 13), .lit (.int .u16 1)], .agg [.lit (.int .u16 32), .lit (.int .u16 133), .lit (.int .u16 101)], .agg [.lit (.int .u16 160), .lit (.int .u16 5760), .lit (.int .u16 5600)], .agg [.lit (.int .u16 8192), .lit (.int .u16 8202), .lit (.int .u16 1)], .agg [.lit (.int .u16 8232), .lit (.int .u16 8233), .lit (.int .u16 1)], .agg [.lit (.int .u16 8239), .lit (.int .u16 8287), .lit (.int .u16 48)], .agg [.lit (.int .u16 12288), .lit (.int .u16 12288), .lit (.int .u16 1)]] [], .nil, .lit (.int .i64 2)])
def laid_strings_asciiSpace {H : Type} : DataW H := .agg [.lit (.int .u8 0), .lit (.int .u8 0), .lit (.int .u8 0), .lit (.int .u8 0), .lit (.int .u8 0), .lit (.int .u8 0), .lit (.int .u8 0), .lit (.int .u8 0), .lit (.int .u8 0), .lit (.int .u8 1), .lit (.int .u8 1), .lit (.int .u8 1), .lit (.int .u8 1), .lit (.int .u8 1), .lit (.int .u8 0), .lit (.int .u8 0), .lit (.int .u8 0), .lit (.int .u8 0), .lit (.int .u8 0), .lit (.int .u8 0), .lit (.int .u8 0), .lit (.int .u8 0), .lit (.int .u8 0), .lit (.int .u8 0), .lit (.int .u8 0), .lit (.int .u8 0), .lit (.int .u8 0), .lit (.int .u8 0), .lit (.int .u8 0), .lit (.int .u8 0), .lit (.int .u8 0), .lit (.int .u8 0), .lit (.int .u8 1), .lit (.int .u8 0), .lit (.int .u8 0), .lit (.int .u8 0), .lit (.int .u8 0), .lit (.int .u8 0), .lit (.int .u8 0), .lit (.int .u8 0), .lit (.int .u8 0), .lit (.int .u8 0), .lit (.int .u8 0), .lit (.int .u8 0), .lit (.int .u8 0), .lit (.int .u8 0), .lit (.int .u8 0), .lit (.int .u8 0), .lit (.int .u8 0), .lit (.int .u8 0), .lit (.int .u8 0), .lit (.int .u8 0), .lit (.int .u8 0), .lit (.int .u8 0), .lit (.int .u8 0), .lit (.int .u8 0), .lit (.int .u8 0), .lit (.int .u8 0), .lit (.int .u8 0), .lit (.int .u8 0), .lit (.int .u8 0), .lit (.int .u8 0), .lit (.int .u8 0), .lit (.int .u8 0), .lit (.int .u8 0), .lit (.int .u8 0), .lit (.int .u8 0), .lit (.int .u8 0), .lit (.int .u8 0), .lit (.int .u8 0), .lit (.int .u8 0), .lit (.int .u8 0), .lit (.int .u8 0), .lit (.int .u8 0), .lit (.int .u8 0), .lit (.int .u8 0), .lit (.int .u8 0), .lit (.int .u8 0), .lit (.int .u8 0), .lit (.int .u8 0), .lit (.int .u8 0), .lit (.int .u8 0), .lit (.int .u8 0), .lit (.int .u8 0), .lit (.int .u8 0), .lit (.int .u8 0), .lit (.int .u8 0), .lit (.int .u8 0), .lit (.int .u8 0), .lit (.int .u8 0), .lit (.int .u8 0), .lit (.int .u8 0), .lit (.int .u8 0), .lit (.int .u8 0), .lit (.int .u8 0), .lit (.int .u8 0), .lit (.int .u8 0), .lit (.int .u8 0), .lit (.int .u8 0), .lit (.int .u8 0), .lit (.int .u8 0), .lit (.int .u8 0), .lit (.int .u8 0), .lit (.int .u8 0), .lit (.int .u8 0), .lit (.int .u8 0), .lit (.int .u8 0), .lit (.int .u8 0), .lit (.int .u8 0), .lit (.int .u8 0), .lit (.int .u8 0), .lit (.int .u8 0), .lit (.int .u8 0), .lit (.int .u8 0), .lit (.int .u8 0), .lit (.int .u8 0), .lit (.int .u8 0), .lit (.int .u8 0), .lit (.int .u8 0), .lit (.int .u8 0), .lit (.int .u8 0), .lit (.int .u8 0), .lit (.int .u8 0), .lit (.int .u8 0), .lit (.int .u8 0), .lit (.int .u8 0), .lit (.int .u8 0), .lit (.int .u8 0), .lit (.int .u8 0), .lit (.int .u8 0), .lit (.int .u8 0), .lit (.int .u8 0), .lit (.int .u8 0), .lit (.int .u8 0), .lit (.int .u8 0), .lit (.int .u8 0), .lit (.int .u8 0), .lit (.int .u8 0), .lit (.int .u8 0), .lit (.int .u8 0), .lit (.int .u8 0), .lit (.int .u8 0), .lit (.int .u8 0), .lit (.int .u8 0), .lit (.int .u8 0), .lit (.int .u8 0), .lit (.int .u8 0), .lit (.int .u8 0), .lit (.int .u8 0), .lit (.int .u8 0), .lit (.int .u8 0), .lit (.int .u8 0), .lit (.int .u8 0), .lit (.int .u8 0), .lit (.int .u8 0), .lit (.int .u8 0), .lit (.int .u8 0), .lit (.int .u8 0), .lit (.int .u8 0), .lit (.int .u8 0), .lit (.int .u8 0), .lit (.int .u8 0), .lit (.int .u8 0), .lit (.int .u8 0), .lit (.int .u8 0), .lit (.int .u8 0), .lit (.int .u8 0), .lit (.int .u8 0), .lit (.int .u8 0), .lit (.int .u8 0), .lit (.int .u8 0), .lit (.int .u8 0), .lit (.int .u8 0), .lit (.int .u8 0), .lit (.int .u8 0), .lit (.int .u8 0), .lit (.int .u8 0), .lit (.int .u8 0), .lit (.int .u8 0), .lit (.int .u8 0), .lit (.int .u8 0), .lit (.int .u8 0), .lit (.int .u8 0), .lit (.int .u8 0), .lit (.int .u8 0), .lit (.int .u8 0), .lit (.int .u8 0), .lit (.int .u8 0), .lit (.int .u8 0), .lit (.int .u8 0), .lit (.int .u8 0), .lit (.int .u8 0), .lit (.int .u8 0), .lit (.int .u8 0), .lit (.int .u8 0), .lit (.int .u8 0), .lit (.int .u8 0), .lit (.int .u8 0), .lit (.int .u8 0), .lit (.int .u8 0), .lit (.int .u8 0), .lit (.int .u8 0), .lit (.int .u8 0), .lit (.int .u8 0), .lit (.int .u8 0), .lit (.int .u8 0), .lit (.int .u8 0), .lit (.int .u8 0), .lit (.int .u8 0), .lit (.int .u8 0), .lit (.int .u8 0), .lit (.int .u8 0), .lit (.int .u8 0), .lit (.int .u8 0), .lit (.int .u8 0), .lit (.int .u8 0), .lit (.int .u8 0), .lit (.int .u8 0), .lit (.int .u8 0), .lit (.int .u8 0), .lit (.int .u8 0), .lit (.int .u8 0), .lit (.int .u8 0), .lit (.int .u8 0), .lit (.int .u8 0), .lit (.int .u8 0), .lit (.int .u8 0), .lit (.int .u8 0), .lit (.int .u8 0), .lit (.int .u8 0), .lit (.int .u8 0), .lit (.int .u8 0), .lit (.int .u8 0), .lit (.int .u8 0), .lit (.int .u8 0), .lit (.int .u8 0), .lit (.int .u8 0), .lit (.int .u8 0), .lit (.int .u8 0), .lit (.int .u8 0), .lit (.int .u8 0), .lit (.int .u8 0), .lit (.int .u8 0), .lit (.int .u8 0), .lit (.int .u8 0), .lit (.int .u8 0), .lit (.int .u8 0), .lit (.int .u8 0), .lit (.int .u8 0), .lit (.int .u8 0), .lit (.int .u8 0), .lit (.int .u8 0), .lit (.int .u8 0), .lit (.int .u8 0), .lit (.int .u8 0), .lit (.int .u8 0)]

/-- 'captionerlaw34.TokenSplits': WHATEVER THE INPUT: true; the input reads as it did. -/
def tokenSplitsSpec : ChangeSpec := { name := "tokenSplits", fn := fun _ => fun
  | [d] => { results := [.lit (.bool true)], args := [d] }
  | _ => none }
def tokenSplitsRow : OpenClaim := { program := "ytheemefggkcfbaadoor", sum := "4e65b5c7243d0fc9816c0c48777425bf36ce117e470f114494df5ec750dd9d39", func := "captioner/captionerlaw34.TokenSplits", spec := "tokenSplits", inPlace := ["internal/bytealg.IndexByteString", "internal/bytealg.IndexString", "internal/bytealg.CountString"], unfollowed := true, recurses := true, named := ["unicode/utf8.first", "unicode/utf8.acceptRanges", "internal/bytealg.MaxLen"], apart := false, laid := [("unicode/utf8.acceptRanges", laid_unicode_utf8_acceptRanges), ("unicode/utf8.first", laid_unicode_utf8_first)] }
def TokenSplitsSaid : Prop := tokenSplitsRow.holds Tryd.pinned (OpenSpec.ofChange tokenSplitsSpec)

/-- ITS FALSE NEIGHBOUR: 'it returns false'. Refute it at one input. -/
def tokenSplitsWrong : ChangeSpec := { name := "tokenSplits", fn := fun _ => fun
  | [d] => { results := [.lit (.bool false)], args := [d] }
  | _ => none }
def TokenSplitsWrongFalsely : Prop := tokenSplitsRow.holds Tryd.pinned (OpenSpec.ofChange tokenSplitsWrong)

/-- 'captionerlaw34.TokenStrengths': WHATEVER THE INPUT: true; the input reads as it did. -/
def tokenStrengthsSpec : ChangeSpec := { name := "tokenStrengths", fn := fun _ => fun
  | [d1, d2] => { results := [.lit (.bool true)], args := [d1, d2] }
  | _ => none }
def tokenStrengthsRow : OpenClaim := { program := "ytheemefggkcfbaadoor", sum := "4e65b5c7243d0fc9816c0c48777425bf36ce117e470f114494df5ec750dd9d39", func := "captioner/captionerlaw34.TokenStrengths", spec := "tokenStrengths", inPlace := ["internal/bytealg.IndexByteString", "internal/bytealg.IndexString", "internal/bytealg.CountString"], unfollowed := true, recurses := true, named := ["unicode/utf8.first", "unicode/utf8.acceptRanges", "internal/bytealg.MaxLen"], apart := false, laid := [("unicode/utf8.acceptRanges", laid_unicode_utf8_acceptRanges), ("unicode/utf8.first", laid_unicode_utf8_first)] }
def TokenStrengthsSaid : Prop := tokenStrengthsRow.holds Tryd.pinned (OpenSpec.ofChange tokenStrengthsSpec)

/-- ITS FALSE NEIGHBOUR: 'it returns false'. Refute it at one input. -/
def tokenStrengthsWrong : ChangeSpec := { name := "tokenStrengths", fn := fun _ => fun
  | [d1, d2] => { results := [.lit (.bool false)], args := [d1, d2] }
  | _ => none }
def TokenStrengthsWrongFalsely : Prop := tokenStrengthsRow.holds Tryd.pinned (OpenSpec.ofChange tokenStrengthsWrong)

/-- 'captionerlaw34.TokenAdds': WHATEVER THE INPUT: true; the input reads as it did. -/
def tokenAddsSpec : ChangeSpec := { name := "tokenAdds", fn := fun _ => fun
  | [d1, d2] => { results := [.lit (.bool true)], args := [d1, d2] }
  | _ => none }
def tokenAddsRow : OpenClaim := { program := "ytheemefggkcfbaadoor", sum := "4e65b5c7243d0fc9816c0c48777425bf36ce117e470f114494df5ec750dd9d39", func := "captioner/captionerlaw34.TokenAdds", spec := "tokenAdds", inPlace := ["internal/bytealg.IndexByteString", "internal/bytealg.IndexString", "internal/bytealg.CountString"], unfollowed := true, recurses := true, named := ["unicode/utf8.first", "unicode/utf8.acceptRanges", "internal/bytealg.MaxLen"], apart := false, laid := [("unicode/utf8.acceptRanges", laid_unicode_utf8_acceptRanges), ("unicode/utf8.first", laid_unicode_utf8_first)] }
def TokenAddsSaid : Prop := tokenAddsRow.holds Tryd.pinned (OpenSpec.ofChange tokenAddsSpec)

/-- ITS FALSE NEIGHBOUR: 'it returns false'. Refute it at one input. -/
def tokenAddsWrong : ChangeSpec := { name := "tokenAdds", fn := fun _ => fun
  | [d1, d2] => { results := [.lit (.bool false)], args := [d1, d2] }
  | _ => none }
def TokenAddsWrongFalsely : Prop := tokenAddsRow.holds Tryd.pinned (OpenSpec.ofChange tokenAddsWrong)

/-- 'captionerlaw34.TokenSpaces': WHATEVER THE INPUT: true; the input reads as it did. -/
def tokenSpacesSpec : ChangeSpec := { name := "tokenSpaces", fn := fun _ => fun
  | [d1, d2, d3] => { results := [.lit (.bool true)], args := [d1, d2, d3] }
  | _ => none }
def tokenSpacesRow : OpenClaim := { program := "ytheemefggkcfbaadoor", sum := "4e65b5c7243d0fc9816c0c48777425bf36ce117e470f114494df5ec750dd9d39", func := "captioner/captionerlaw34.TokenSpaces", spec := "tokenSpaces", inPlace := ["internal/bytealg.IndexByteString", "internal/bytealg.IndexString", "internal/bytealg.CountString"], unfollowed := true, recurses := true, named := ["unicode/utf8.first", "unicode/utf8.acceptRanges", "internal/bytealg.MaxLen"], apart := false, laid := [("unicode/utf8.acceptRanges", laid_unicode_utf8_acceptRanges), ("unicode/utf8.first", laid_unicode_utf8_first)] }
def TokenSpacesSaid : Prop := tokenSpacesRow.holds Tryd.pinned (OpenSpec.ofChange tokenSpacesSpec)

/-- ITS FALSE NEIGHBOUR: 'it returns false'. Refute it at one input. -/
def tokenSpacesWrong : ChangeSpec := { name := "tokenSpaces", fn := fun _ => fun
  | [d1, d2, d3] => { results := [.lit (.bool false)], args := [d1, d2, d3] }
  | _ => none }
def TokenSpacesWrongFalsely : Prop := tokenSpacesRow.holds Tryd.pinned (OpenSpec.ofChange tokenSpacesWrong)

/-- 'captionerlaw34.TokenWhole': WHATEVER THE INPUT: true; the input reads as it did. -/
def tokenWholeSpec : ChangeSpec := { name := "tokenWhole", fn := fun _ => fun
  | [d] => { results := [.lit (.bool true)], args := [d] }
  | _ => none }
def tokenWholeRow : OpenClaim := { program := "ytheemefggkcfbaadoor", sum := "4e65b5c7243d0fc9816c0c48777425bf36ce117e470f114494df5ec750dd9d39", func := "captioner/captionerlaw34.TokenWhole", spec := "tokenWhole", inPlace := ["internal/bytealg.IndexByteString", "internal/bytealg.IndexString", "internal/bytealg.CountString", "internal/abi.NoEscape", "internal/bytealg.MakeNoZero"], unfollowed := true, recurses := true, named := ["unicode/utf8.first", "unicode/utf8.acceptRanges", "internal/bytealg.MaxLen"], apart := false, laid := [("unicode/utf8.acceptRanges", laid_unicode_utf8_acceptRanges), ("unicode/utf8.first", laid_unicode_utf8_first)] }
def TokenWholeSaid : Prop := tokenWholeRow.holds Tryd.pinned (OpenSpec.ofChange tokenWholeSpec)

/-- ITS FALSE NEIGHBOUR: 'it returns false'. Refute it at one input. -/
def tokenWholeWrong : ChangeSpec := { name := "tokenWhole", fn := fun _ => fun
  | [d] => { results := [.lit (.bool false)], args := [d] }
  | _ => none }
def TokenWholeWrongFalsely : Prop := tokenWholeRow.holds Tryd.pinned (OpenSpec.ofChange tokenWholeWrong)

/-- 'captionerlaw34.TokenChecks': WHATEVER THE INPUT: true; the input reads as it did. -/
def tokenChecksSpec : ChangeSpec := { name := "tokenChecks", fn := fun _ => fun
  | [d1, d2, d3] => { results := [.lit (.bool true)], args := [d1, d2, d3] }
  | _ => none }
def tokenChecksRow : OpenClaim := { program := "ytheemefggkcfbaadoor", sum := "4e65b5c7243d0fc9816c0c48777425bf36ce117e470f114494df5ec750dd9d39", func := "captioner/captionerlaw34.TokenChecks", spec := "tokenChecks", inPlace := ["internal/bytealg.IndexByteString", "internal/bytealg.IndexString", "internal/bytealg.CountString", "internal/abi.NoEscape", "internal/bytealg.MakeNoZero"], unfollowed := true, recurses := true, named := ["unicode/utf8.first", "unicode/utf8.acceptRanges", "internal/bytealg.MaxLen"], apart := false, laid := [("unicode/utf8.acceptRanges", laid_unicode_utf8_acceptRanges), ("unicode/utf8.first", laid_unicode_utf8_first)] }
def TokenChecksSaid : Prop := tokenChecksRow.holds Tryd.pinned (OpenSpec.ofChange tokenChecksSpec)

/-- ITS FALSE NEIGHBOUR: 'it returns false'. Refute it at one input. -/
def tokenChecksWrong : ChangeSpec := { name := "tokenChecks", fn := fun _ => fun
  | [d1, d2, d3] => { results := [.lit (.bool false)], args := [d1, d2, d3] }
  | _ => none }
def TokenChecksWrongFalsely : Prop := tokenChecksRow.holds Tryd.pinned (OpenSpec.ofChange tokenChecksWrong)

/-- 'captionerlaw34.TokenAgain': WHATEVER THE INPUT: true; the input reads as it did. -/
def tokenAgainSpec : ChangeSpec := { name := "tokenAgain", fn := fun _ => fun
  | [d] => { results := [.lit (.bool true)], args := [d] }
  | _ => none }
def tokenAgainRow : OpenClaim := { program := "ytheemefggkcfbaadoor", sum := "4e65b5c7243d0fc9816c0c48777425bf36ce117e470f114494df5ec750dd9d39", func := "captioner/captionerlaw34.TokenAgain", spec := "tokenAgain", inPlace := ["internal/bytealg.IndexByteString", "internal/bytealg.IndexString", "internal/bytealg.CountString", "internal/abi.NoEscape", "internal/bytealg.MakeNoZero"], unfollowed := true, recurses := true, named := ["unicode/utf8.first", "unicode/utf8.acceptRanges", "internal/bytealg.MaxLen"], apart := false, laid := [("unicode/utf8.acceptRanges", laid_unicode_utf8_acceptRanges), ("unicode/utf8.first", laid_unicode_utf8_first)] }
def TokenAgainSaid : Prop := tokenAgainRow.holds Tryd.pinned (OpenSpec.ofChange tokenAgainSpec)

/-- ITS FALSE NEIGHBOUR: 'it returns false'. Refute it at one input. -/
def tokenAgainWrong : ChangeSpec := { name := "tokenAgain", fn := fun _ => fun
  | [d] => { results := [.lit (.bool false)], args := [d] }
  | _ => none }
def TokenAgainWrongFalsely : Prop := tokenAgainRow.holds Tryd.pinned (OpenSpec.ofChange tokenAgainWrong)

/-- 'captionerlaw48.RespeakWords': WHATEVER THE INPUT: true; the input reads as it did. -/
def respeakWordsSpec : ChangeSpec := { name := "respeakWords", fn := fun _ => fun
  | [d] => { results := [.lit (.bool true)], args := [d] }
  | _ => none }
def respeakWordsRow : OpenClaim := { program := "ytheemefggkcfbaadoor", sum := "4e65b5c7243d0fc9816c0c48777425bf36ce117e470f114494df5ec750dd9d39", func := "captioner/captionerlaw48.RespeakWords", spec := "respeakWords", inPlace := ["internal/bytealg.CountString", "internal/bytealg.IndexByteString", "internal/bytealg.IndexString", "internal/abi.NoEscape", "internal/bytealg.MakeNoZero"], unfollowed := true, recurses := true, named := ["unicode/utf8.first", "unicode/utf8.acceptRanges", "internal/bytealg.MaxLen"], apart := false, laid := [("unicode/utf8.acceptRanges", laid_unicode_utf8_acceptRanges), ("unicode/utf8.first", laid_unicode_utf8_first)] }
def RespeakWordsSaid : Prop := respeakWordsRow.holds Tryd.pinned (OpenSpec.ofChange respeakWordsSpec)

/-- ITS FALSE NEIGHBOUR: 'it returns false'. Refute it at one input. -/
def respeakWordsWrong : ChangeSpec := { name := "respeakWords", fn := fun _ => fun
  | [d] => { results := [.lit (.bool false)], args := [d] }
  | _ => none }
def RespeakWordsWrongFalsely : Prop := respeakWordsRow.holds Tryd.pinned (OpenSpec.ofChange respeakWordsWrong)

/-- 'captionerlaw48.RespeakLimits': WHATEVER THE INPUT: true; the input reads as it did. -/
def respeakLimitsSpec : ChangeSpec := { name := "respeakLimits", fn := fun _ => fun
  | [d] => { results := [.lit (.bool true)], args := [d] }
  | _ => none }
def respeakLimitsRow : OpenClaim := { program := "ytheemefggkcfbaadoor", sum := "4e65b5c7243d0fc9816c0c48777425bf36ce117e470f114494df5ec750dd9d39", func := "captioner/captionerlaw48.RespeakLimits", spec := "respeakLimits", inPlace := ["internal/bytealg.CountString", "internal/bytealg.IndexByteString", "internal/bytealg.IndexString", "internal/abi.NoEscape", "internal/bytealg.MakeNoZero"], unfollowed := true, recurses := true, named := ["unicode/utf8.first", "unicode/utf8.acceptRanges", "internal/bytealg.MaxLen"], apart := false, laid := [("unicode/utf8.acceptRanges", laid_unicode_utf8_acceptRanges), ("unicode/utf8.first", laid_unicode_utf8_first)] }
def RespeakLimitsSaid : Prop := respeakLimitsRow.holds Tryd.pinned (OpenSpec.ofChange respeakLimitsSpec)

/-- ITS FALSE NEIGHBOUR: 'it returns false'. Refute it at one input. -/
def respeakLimitsWrong : ChangeSpec := { name := "respeakLimits", fn := fun _ => fun
  | [d] => { results := [.lit (.bool false)], args := [d] }
  | _ => none }
def RespeakLimitsWrongFalsely : Prop := respeakLimitsRow.holds Tryd.pinned (OpenSpec.ofChange respeakLimitsWrong)

/-- 'captionerlaw48.RespeakFixes': WHATEVER THE INPUT: true; the input reads as it did. -/
def respeakFixesSpec : ChangeSpec := { name := "respeakFixes", fn := fun _ => fun
  | [d1, d2, d3] => { results := [.lit (.bool true)], args := [d1, d2, d3] }
  | _ => none }
def respeakFixesRow : OpenClaim := { program := "ytheemefggkcfbaadoor", sum := "4e65b5c7243d0fc9816c0c48777425bf36ce117e470f114494df5ec750dd9d39", func := "captioner/captionerlaw48.RespeakFixes", spec := "respeakFixes", inPlace := ["internal/bytealg.CountString", "internal/bytealg.IndexByteString", "internal/bytealg.IndexString", "internal/abi.NoEscape", "internal/bytealg.MakeNoZero"], unfollowed := true, recurses := true, named := ["unicode/utf8.first", "unicode/utf8.acceptRanges", "internal/bytealg.MaxLen"], apart := false, laid := [("unicode/utf8.acceptRanges", laid_unicode_utf8_acceptRanges), ("unicode/utf8.first", laid_unicode_utf8_first)] }
def RespeakFixesSaid : Prop := respeakFixesRow.holds Tryd.pinned (OpenSpec.ofChange respeakFixesSpec)

/-- ITS FALSE NEIGHBOUR: 'it returns false'. Refute it at one input. -/
def respeakFixesWrong : ChangeSpec := { name := "respeakFixes", fn := fun _ => fun
  | [d1, d2, d3] => { results := [.lit (.bool false)], args := [d1, d2, d3] }
  | _ => none }
def RespeakFixesWrongFalsely : Prop := respeakFixesRow.holds Tryd.pinned (OpenSpec.ofChange respeakFixesWrong)

/-- 'captionerlaw48.RespeakPlays': WHATEVER THE INPUT: true; the input reads as it did. -/
def respeakPlaysSpec : ChangeSpec := { name := "respeakPlays", fn := fun _ => fun
  | [d1, d2] => { results := [.lit (.bool true)], args := [d1, d2] }
  | _ => none }
def respeakPlaysRow : OpenClaim := { program := "ytheemefggkcfbaadoor", sum := "4e65b5c7243d0fc9816c0c48777425bf36ce117e470f114494df5ec750dd9d39", func := "captioner/captionerlaw48.RespeakPlays", spec := "respeakPlays", inPlace := ["internal/bytealg.CountString", "internal/bytealg.IndexByteString", "internal/bytealg.IndexString", "internal/abi.NoEscape", "internal/bytealg.MakeNoZero"], unfollowed := true, recurses := true, named := ["unicode/utf8.first", "unicode/utf8.acceptRanges", "internal/bytealg.MaxLen"], apart := false, laid := [("unicode/utf8.acceptRanges", laid_unicode_utf8_acceptRanges), ("unicode/utf8.first", laid_unicode_utf8_first)] }
def RespeakPlaysSaid : Prop := respeakPlaysRow.holds Tryd.pinned (OpenSpec.ofChange respeakPlaysSpec)

/-- ITS FALSE NEIGHBOUR: 'it returns false'. Refute it at one input. -/
def respeakPlaysWrong : ChangeSpec := { name := "respeakPlays", fn := fun _ => fun
  | [d1, d2] => { results := [.lit (.bool false)], args := [d1, d2] }
  | _ => none }
def RespeakPlaysWrongFalsely : Prop := respeakPlaysRow.holds Tryd.pinned (OpenSpec.ofChange respeakPlaysWrong)

/-- 'captionerlaw48.RespeakClones': WHATEVER THE INPUT: true; the input reads as it did. -/
def respeakClonesSpec : ChangeSpec := { name := "respeakClones", fn := fun _ => fun
  | [d1, d2] => { results := [.lit (.bool true)], args := [d1, d2] }
  | _ => none }
def respeakClonesRow : OpenClaim := { program := "ytheemefggkcfbaadoor", sum := "4e65b5c7243d0fc9816c0c48777425bf36ce117e470f114494df5ec750dd9d39", func := "captioner/captionerlaw48.RespeakClones", spec := "respeakClones", inPlace := ["internal/bytealg.CountString", "internal/bytealg.IndexByteString", "internal/bytealg.IndexString", "internal/abi.NoEscape", "internal/bytealg.MakeNoZero"], unfollowed := true, recurses := true, named := ["unicode/utf8.first", "unicode/utf8.acceptRanges", "internal/bytealg.MaxLen"], apart := false, laid := [("unicode/utf8.acceptRanges", laid_unicode_utf8_acceptRanges), ("unicode/utf8.first", laid_unicode_utf8_first)] }
def RespeakClonesSaid : Prop := respeakClonesRow.holds Tryd.pinned (OpenSpec.ofChange respeakClonesSpec)

/-- ITS FALSE NEIGHBOUR: 'it returns false'. Refute it at one input. -/
def respeakClonesWrong : ChangeSpec := { name := "respeakClones", fn := fun _ => fun
  | [d1, d2] => { results := [.lit (.bool false)], args := [d1, d2] }
  | _ => none }
def RespeakClonesWrongFalsely : Prop := respeakClonesRow.holds Tryd.pinned (OpenSpec.ofChange respeakClonesWrong)

/-- 'captionerlaw48.RespeakOrder': WHATEVER THE INPUT: true; the input reads as it did. -/
def respeakOrderSpec : ChangeSpec := { name := "respeakOrder", fn := fun _ => fun
  | [d1, d2] => { results := [.lit (.bool true)], args := [d1, d2] }
  | _ => none }
def respeakOrderRow : OpenClaim := { program := "ytheemefggkcfbaadoor", sum := "4e65b5c7243d0fc9816c0c48777425bf36ce117e470f114494df5ec750dd9d39", func := "captioner/captionerlaw48.RespeakOrder", spec := "respeakOrder", inPlace := ["internal/bytealg.CountString", "internal/bytealg.IndexByteString", "internal/bytealg.IndexString", "internal/abi.NoEscape", "internal/bytealg.MakeNoZero"], unfollowed := true, recurses := true, named := ["unicode/utf8.first", "unicode/utf8.acceptRanges", "internal/bytealg.MaxLen", "strings.asciiSpace", "unicode.White_Space"], apart := false, laid := [("unicode/utf8.acceptRanges", laid_unicode_utf8_acceptRanges), ("unicode.White_Space", laid_unicode_White_Space), ("strings.asciiSpace", laid_strings_asciiSpace), ("unicode/utf8.first", laid_unicode_utf8_first)] }
def RespeakOrderSaid : Prop := respeakOrderRow.holds Tryd.pinned (OpenSpec.ofChange respeakOrderSpec)

/-- ITS FALSE NEIGHBOUR: 'it returns false'. Refute it at one input. -/
def respeakOrderWrong : ChangeSpec := { name := "respeakOrder", fn := fun _ => fun
  | [d1, d2] => { results := [.lit (.bool false)], args := [d1, d2] }
  | _ => none }
def RespeakOrderWrongFalsely : Prop := respeakOrderRow.holds Tryd.pinned (OpenSpec.ofChange respeakOrderWrong)

/- THE SECOND FORM. 'bulk': how many values and letters a reading holds, each counted each time it is reached (what is shared counts as often as it is met; a slice's spare places count too). A statement '..UptoSaid' is the law's where the arguments, and the package variables that the reading takes, are together of bulk at most 1048576: NARROWER than '..Said'. Prove '..Said' where nothing that the law and all that it calls make is longer than what came in: it says more and counts as full. Else prove '..UptoSaid'. A law counts once. -/
mutual
def uptoBulk {H : Type} : DataW H → Nat
  | .lit (.string bytes) => bytes.length + 1
  | .lit _ => 1
  | .nil => 1
  | .ptr d => uptoBulk d + 1
  | .slice elems spare => uptoBulkAll elems + uptoBulkAll spare + 1
  | .agg parts => uptoBulkAll parts + 1
  | .iface _ d => uptoBulk d + 1
  | .map entries => uptoBulkEntries entries + 1
  | .held _ => 1
def uptoBulkAll {H : Type} : List (DataW H) → Nat
  | [] => 0
  | d :: r => uptoBulk d + uptoBulkAll r
def uptoBulkEntries {H : Type} : List (Lit × DataW H) → Nat
  | [] => 0
  | x :: r => uptoBulkEntry x + uptoBulkEntries r
def uptoBulkEntry {H : Type} : Lit × DataW H → Nat
  | (.string bytes, d) => bytes.length + uptoBulk d + 1
  | (_, d) => uptoBulk d + 1
 end
def uptoSmall : (H : Type) → List (DataW H) → Bool := fun _ ds => decide (uptoBulkAll ds ≤ 1048576)
def OpenSpec.upto (s : _root_.Go.ChangeSpec) : _root_.Go.OpenSpec := { _root_.Go.OpenSpec.ofChange s with cond := some uptoSmall }

/-- 'captionerlaw34.TokenSplits', WHERE WHAT IT READS IS OF BULK AT MOST 1048576: true; the input reads as it did. -/
def tokenSplitsUptoRow : OpenClaim := { program := "ytheemefggkcfbaadoor", sum := "4e65b5c7243d0fc9816c0c48777425bf36ce117e470f114494df5ec750dd9d39", func := "captioner/captionerlaw34.TokenSplits", spec := "tokenSplits", inPlace := ["internal/bytealg.IndexByteString", "internal/bytealg.IndexString", "internal/bytealg.CountString"], unfollowed := true, recurses := true, named := ["unicode/utf8.first", "unicode/utf8.acceptRanges", "internal/bytealg.MaxLen"], apart := false, laid := [("unicode/utf8.acceptRanges", laid_unicode_utf8_acceptRanges), ("unicode/utf8.first", laid_unicode_utf8_first)], narrowed := true }
def TokenSplitsUptoSaid : Prop := tokenSplitsUptoRow.holds Tryd.pinned (OpenSpec.upto tokenSplitsSpec)

/-- 'captionerlaw34.TokenStrengths', WHERE WHAT IT READS IS OF BULK AT MOST 1048576: true; the input reads as it did. -/
def tokenStrengthsUptoRow : OpenClaim := { program := "ytheemefggkcfbaadoor", sum := "4e65b5c7243d0fc9816c0c48777425bf36ce117e470f114494df5ec750dd9d39", func := "captioner/captionerlaw34.TokenStrengths", spec := "tokenStrengths", inPlace := ["internal/bytealg.IndexByteString", "internal/bytealg.IndexString", "internal/bytealg.CountString"], unfollowed := true, recurses := true, named := ["unicode/utf8.first", "unicode/utf8.acceptRanges", "internal/bytealg.MaxLen"], apart := false, laid := [("unicode/utf8.acceptRanges", laid_unicode_utf8_acceptRanges), ("unicode/utf8.first", laid_unicode_utf8_first)], narrowed := true }
def TokenStrengthsUptoSaid : Prop := tokenStrengthsUptoRow.holds Tryd.pinned (OpenSpec.upto tokenStrengthsSpec)

/-- 'captionerlaw34.TokenAdds', WHERE WHAT IT READS IS OF BULK AT MOST 1048576: true; the input reads as it did. -/
def tokenAddsUptoRow : OpenClaim := { program := "ytheemefggkcfbaadoor", sum := "4e65b5c7243d0fc9816c0c48777425bf36ce117e470f114494df5ec750dd9d39", func := "captioner/captionerlaw34.TokenAdds", spec := "tokenAdds", inPlace := ["internal/bytealg.IndexByteString", "internal/bytealg.IndexString", "internal/bytealg.CountString"], unfollowed := true, recurses := true, named := ["unicode/utf8.first", "unicode/utf8.acceptRanges", "internal/bytealg.MaxLen"], apart := false, laid := [("unicode/utf8.acceptRanges", laid_unicode_utf8_acceptRanges), ("unicode/utf8.first", laid_unicode_utf8_first)], narrowed := true }
def TokenAddsUptoSaid : Prop := tokenAddsUptoRow.holds Tryd.pinned (OpenSpec.upto tokenAddsSpec)

/-- 'captionerlaw34.TokenSpaces', WHERE WHAT IT READS IS OF BULK AT MOST 1048576: true; the input reads as it did. -/
def tokenSpacesUptoRow : OpenClaim := { program := "ytheemefggkcfbaadoor", sum := "4e65b5c7243d0fc9816c0c48777425bf36ce117e470f114494df5ec750dd9d39", func := "captioner/captionerlaw34.TokenSpaces", spec := "tokenSpaces", inPlace := ["internal/bytealg.IndexByteString", "internal/bytealg.IndexString", "internal/bytealg.CountString"], unfollowed := true, recurses := true, named := ["unicode/utf8.first", "unicode/utf8.acceptRanges", "internal/bytealg.MaxLen"], apart := false, laid := [("unicode/utf8.acceptRanges", laid_unicode_utf8_acceptRanges), ("unicode/utf8.first", laid_unicode_utf8_first)], narrowed := true }
def TokenSpacesUptoSaid : Prop := tokenSpacesUptoRow.holds Tryd.pinned (OpenSpec.upto tokenSpacesSpec)

/-- 'captionerlaw34.TokenWhole', WHERE WHAT IT READS IS OF BULK AT MOST 1048576: true; the input reads as it did. -/
def tokenWholeUptoRow : OpenClaim := { program := "ytheemefggkcfbaadoor", sum := "4e65b5c7243d0fc9816c0c48777425bf36ce117e470f114494df5ec750dd9d39", func := "captioner/captionerlaw34.TokenWhole", spec := "tokenWhole", inPlace := ["internal/bytealg.IndexByteString", "internal/bytealg.IndexString", "internal/bytealg.CountString", "internal/abi.NoEscape", "internal/bytealg.MakeNoZero"], unfollowed := true, recurses := true, named := ["unicode/utf8.first", "unicode/utf8.acceptRanges", "internal/bytealg.MaxLen"], apart := false, laid := [("unicode/utf8.acceptRanges", laid_unicode_utf8_acceptRanges), ("unicode/utf8.first", laid_unicode_utf8_first)], narrowed := true }
def TokenWholeUptoSaid : Prop := tokenWholeUptoRow.holds Tryd.pinned (OpenSpec.upto tokenWholeSpec)

/-- 'captionerlaw34.TokenChecks', WHERE WHAT IT READS IS OF BULK AT MOST 1048576: true; the input reads as it did. -/
def tokenChecksUptoRow : OpenClaim := { program := "ytheemefggkcfbaadoor", sum := "4e65b5c7243d0fc9816c0c48777425bf36ce117e470f114494df5ec750dd9d39", func := "captioner/captionerlaw34.TokenChecks", spec := "tokenChecks", inPlace := ["internal/bytealg.IndexByteString", "internal/bytealg.IndexString", "internal/bytealg.CountString", "internal/abi.NoEscape", "internal/bytealg.MakeNoZero"], unfollowed := true, recurses := true, named := ["unicode/utf8.first", "unicode/utf8.acceptRanges", "internal/bytealg.MaxLen"], apart := false, laid := [("unicode/utf8.acceptRanges", laid_unicode_utf8_acceptRanges), ("unicode/utf8.first", laid_unicode_utf8_first)], narrowed := true }
def TokenChecksUptoSaid : Prop := tokenChecksUptoRow.holds Tryd.pinned (OpenSpec.upto tokenChecksSpec)

/-- 'captionerlaw34.TokenAgain', WHERE WHAT IT READS IS OF BULK AT MOST 1048576: true; the input reads as it did. -/
def tokenAgainUptoRow : OpenClaim := { program := "ytheemefggkcfbaadoor", sum := "4e65b5c7243d0fc9816c0c48777425bf36ce117e470f114494df5ec750dd9d39", func := "captioner/captionerlaw34.TokenAgain", spec := "tokenAgain", inPlace := ["internal/bytealg.IndexByteString", "internal/bytealg.IndexString", "internal/bytealg.CountString", "internal/abi.NoEscape", "internal/bytealg.MakeNoZero"], unfollowed := true, recurses := true, named := ["unicode/utf8.first", "unicode/utf8.acceptRanges", "internal/bytealg.MaxLen"], apart := false, laid := [("unicode/utf8.acceptRanges", laid_unicode_utf8_acceptRanges), ("unicode/utf8.first", laid_unicode_utf8_first)], narrowed := true }
def TokenAgainUptoSaid : Prop := tokenAgainUptoRow.holds Tryd.pinned (OpenSpec.upto tokenAgainSpec)

/-- 'captionerlaw48.RespeakWords', WHERE WHAT IT READS IS OF BULK AT MOST 1048576: true; the input reads as it did. -/
def respeakWordsUptoRow : OpenClaim := { program := "ytheemefggkcfbaadoor", sum := "4e65b5c7243d0fc9816c0c48777425bf36ce117e470f114494df5ec750dd9d39", func := "captioner/captionerlaw48.RespeakWords", spec := "respeakWords", inPlace := ["internal/bytealg.CountString", "internal/bytealg.IndexByteString", "internal/bytealg.IndexString", "internal/abi.NoEscape", "internal/bytealg.MakeNoZero"], unfollowed := true, recurses := true, named := ["unicode/utf8.first", "unicode/utf8.acceptRanges", "internal/bytealg.MaxLen"], apart := false, laid := [("unicode/utf8.acceptRanges", laid_unicode_utf8_acceptRanges), ("unicode/utf8.first", laid_unicode_utf8_first)], narrowed := true }
def RespeakWordsUptoSaid : Prop := respeakWordsUptoRow.holds Tryd.pinned (OpenSpec.upto respeakWordsSpec)

/-- 'captionerlaw48.RespeakLimits', WHERE WHAT IT READS IS OF BULK AT MOST 1048576: true; the input reads as it did. -/
def respeakLimitsUptoRow : OpenClaim := { program := "ytheemefggkcfbaadoor", sum := "4e65b5c7243d0fc9816c0c48777425bf36ce117e470f114494df5ec750dd9d39", func := "captioner/captionerlaw48.RespeakLimits", spec := "respeakLimits", inPlace := ["internal/bytealg.CountString", "internal/bytealg.IndexByteString", "internal/bytealg.IndexString", "internal/abi.NoEscape", "internal/bytealg.MakeNoZero"], unfollowed := true, recurses := true, named := ["unicode/utf8.first", "unicode/utf8.acceptRanges", "internal/bytealg.MaxLen"], apart := false, laid := [("unicode/utf8.acceptRanges", laid_unicode_utf8_acceptRanges), ("unicode/utf8.first", laid_unicode_utf8_first)], narrowed := true }
def RespeakLimitsUptoSaid : Prop := respeakLimitsUptoRow.holds Tryd.pinned (OpenSpec.upto respeakLimitsSpec)

/-- 'captionerlaw48.RespeakFixes', WHERE WHAT IT READS IS OF BULK AT MOST 1048576: true; the input reads as it did. -/
def respeakFixesUptoRow : OpenClaim := { program := "ytheemefggkcfbaadoor", sum := "4e65b5c7243d0fc9816c0c48777425bf36ce117e470f114494df5ec750dd9d39", func := "captioner/captionerlaw48.RespeakFixes", spec := "respeakFixes", inPlace := ["internal/bytealg.CountString", "internal/bytealg.IndexByteString", "internal/bytealg.IndexString", "internal/abi.NoEscape", "internal/bytealg.MakeNoZero"], unfollowed := true, recurses := true, named := ["unicode/utf8.first", "unicode/utf8.acceptRanges", "internal/bytealg.MaxLen"], apart := false, laid := [("unicode/utf8.acceptRanges", laid_unicode_utf8_acceptRanges), ("unicode/utf8.first", laid_unicode_utf8_first)], narrowed := true }
def RespeakFixesUptoSaid : Prop := respeakFixesUptoRow.holds Tryd.pinned (OpenSpec.upto respeakFixesSpec)

/-- 'captionerlaw48.RespeakPlays', WHERE WHAT IT READS IS OF BULK AT MOST 1048576: true; the input reads as it did. -/
def respeakPlaysUptoRow : OpenClaim := { program := "ytheemefggkcfbaadoor", sum := "4e65b5c7243d0fc9816c0c48777425bf36ce117e470f114494df5ec750dd9d39", func := "captioner/captionerlaw48.RespeakPlays", spec := "respeakPlays", inPlace := ["internal/bytealg.CountString", "internal/bytealg.IndexByteString", "internal/bytealg.IndexString", "internal/abi.NoEscape", "internal/bytealg.MakeNoZero"], unfollowed := true, recurses := true, named := ["unicode/utf8.first", "unicode/utf8.acceptRanges", "internal/bytealg.MaxLen"], apart := false, laid := [("unicode/utf8.acceptRanges", laid_unicode_utf8_acceptRanges), ("unicode/utf8.first", laid_unicode_utf8_first)], narrowed := true }
def RespeakPlaysUptoSaid : Prop := respeakPlaysUptoRow.holds Tryd.pinned (OpenSpec.upto respeakPlaysSpec)

/-- 'captionerlaw48.RespeakClones', WHERE WHAT IT READS IS OF BULK AT MOST 1048576: true; the input reads as it did. -/
def respeakClonesUptoRow : OpenClaim := { program := "ytheemefggkcfbaadoor", sum := "4e65b5c7243d0fc9816c0c48777425bf36ce117e470f114494df5ec750dd9d39", func := "captioner/captionerlaw48.RespeakClones", spec := "respeakClones", inPlace := ["internal/bytealg.CountString", "internal/bytealg.IndexByteString", "internal/bytealg.IndexString", "internal/abi.NoEscape", "internal/bytealg.MakeNoZero"], unfollowed := true, recurses := true, named := ["unicode/utf8.first", "unicode/utf8.acceptRanges", "internal/bytealg.MaxLen"], apart := false, laid := [("unicode/utf8.acceptRanges", laid_unicode_utf8_acceptRanges), ("unicode/utf8.first", laid_unicode_utf8_first)], narrowed := true }
def RespeakClonesUptoSaid : Prop := respeakClonesUptoRow.holds Tryd.pinned (OpenSpec.upto respeakClonesSpec)

/-- 'captionerlaw48.RespeakOrder', WHERE WHAT IT READS IS OF BULK AT MOST 1048576: true; the input reads as it did. -/
def respeakOrderUptoRow : OpenClaim := { program := "ytheemefggkcfbaadoor", sum := "4e65b5c7243d0fc9816c0c48777425bf36ce117e470f114494df5ec750dd9d39", func := "captioner/captionerlaw48.RespeakOrder", spec := "respeakOrder", inPlace := ["internal/bytealg.CountString", "internal/bytealg.IndexByteString", "internal/bytealg.IndexString", "internal/abi.NoEscape", "internal/bytealg.MakeNoZero"], unfollowed := true, recurses := true, named := ["unicode/utf8.first", "unicode/utf8.acceptRanges", "internal/bytealg.MaxLen", "strings.asciiSpace", "unicode.White_Space"], apart := false, laid := [("unicode/utf8.acceptRanges", laid_unicode_utf8_acceptRanges), ("unicode.White_Space", laid_unicode_White_Space), ("strings.asciiSpace", laid_strings_asciiSpace), ("unicode/utf8.first", laid_unicode_utf8_first)], narrowed := true }
def RespeakOrderUptoSaid : Prop := respeakOrderUptoRow.holds Tryd.pinned (OpenSpec.upto respeakOrderSpec)

end Rows
end Go.Proofs.YtheemefggkcfbaaDoor
