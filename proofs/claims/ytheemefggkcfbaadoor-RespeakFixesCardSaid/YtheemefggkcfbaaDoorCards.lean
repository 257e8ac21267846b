/-
  DERIVED. GIVEN WITH THE SEED: THE CARDS: each row of YtheemefggkcfbaaDoorRows.lean that lists a variable, with what it lists TIED to the program's text (the seventh form; the later family's looks); each row that meets fmt, with fmt's text TOLD by the authors' own Lean function (tested against real Go, not proved from fmt's source: count such statements apart). THE CARD IS WHAT COUNTS. Prove the row's statement (the work); the ties are given (YtheemefggkcfbaaDoorTie.lean); close each card by the builder's one call (the guide's Derived/Test/ToyasCard.lean, 'card_holds'). Laid BY PROGRAM, IN A SANDBOX (cutbox-door.mjs). By AI agents, Wed Nov 11 2026. No macro, syntax, notation, axiom, sorry.
-/
import Derived.Test.YtheemefggkcfbaaDoorRows
import GoSem.ClaimSeven
namespace Go.Proofs.YtheemefggkcfbaaDoor
namespace Rows

/-- THE TIED CARD OF 'captionerlaw34.TokenSplits'. -/
def tokenSplitsCard : Claim7 := { stood := { row := tokenSplitsRow, standIns := [], harness := (true, "6158b2fd477e768da6a942214aee663923314897d7a1ae13f9d187df3722d3a7"), looks := false }, kinds := [], alts := [], laidByText := true, laidKinds := [.data, .pinned], laidTests := true, laidLooks := .later }
def TokenSplitsCardSaid : Prop := Claim7.holds Tryd.pinned (.plain (OpenSpec.ofChange tokenSplitsSpec)) tokenSplitsCard

/-- THE TIED CARD OF 'captionerlaw34.TokenStrengths'. -/
def tokenStrengthsCard : Claim7 := { stood := { row := tokenStrengthsRow, standIns := [], harness := (true, "6158b2fd477e768da6a942214aee663923314897d7a1ae13f9d187df3722d3a7"), looks := false }, kinds := [], alts := [], laidByText := true, laidKinds := [.data, .pinned], laidTests := true, laidLooks := .later }
def TokenStrengthsCardSaid : Prop := Claim7.holds Tryd.pinned (.plain (OpenSpec.ofChange tokenStrengthsSpec)) tokenStrengthsCard

/-- THE TIED CARD OF 'captionerlaw34.TokenAdds'. -/
def tokenAddsCard : Claim7 := { stood := { row := tokenAddsRow, standIns := [], harness := (true, "6158b2fd477e768da6a942214aee663923314897d7a1ae13f9d187df3722d3a7"), looks := false }, kinds := [], alts := [], laidByText := true, laidKinds := [.data, .pinned], laidTests := true, laidLooks := .later }
def TokenAddsCardSaid : Prop := Claim7.holds Tryd.pinned (.plain (OpenSpec.ofChange tokenAddsSpec)) tokenAddsCard

/-- THE TIED CARD OF 'captionerlaw34.TokenSpaces'. -/
def tokenSpacesCard : Claim7 := { stood := { row := tokenSpacesRow, standIns := [], harness := (true, "6158b2fd477e768da6a942214aee663923314897d7a1ae13f9d187df3722d3a7"), looks := false }, kinds := [], alts := [], laidByText := true, laidKinds := [.data, .pinned], laidTests := true, laidLooks := .later }
def TokenSpacesCardSaid : Prop := Claim7.holds Tryd.pinned (.plain (OpenSpec.ofChange tokenSpacesSpec)) tokenSpacesCard

/-- THE TIED CARD OF 'captionerlaw34.TokenWhole'. -/
def tokenWholeCard : Claim7 := { stood := { row := tokenWholeRow, standIns := [], harness := (true, "6158b2fd477e768da6a942214aee663923314897d7a1ae13f9d187df3722d3a7"), looks := false }, kinds := [], alts := [], laidByText := true, laidKinds := [.data, .pinned], laidTests := true, laidLooks := .later }
def TokenWholeCardSaid : Prop := Claim7.holds Tryd.pinned (.plain (OpenSpec.ofChange tokenWholeSpec)) tokenWholeCard

/-- THE TIED CARD OF 'captionerlaw34.TokenChecks'. -/
def tokenChecksCard : Claim7 := { stood := { row := tokenChecksRow, standIns := [], harness := (true, "6158b2fd477e768da6a942214aee663923314897d7a1ae13f9d187df3722d3a7"), looks := false }, kinds := [], alts := [], laidByText := true, laidKinds := [.data, .pinned], laidTests := true, laidLooks := .later }
def TokenChecksCardSaid : Prop := Claim7.holds Tryd.pinned (.plain (OpenSpec.ofChange tokenChecksSpec)) tokenChecksCard

/-- THE TIED CARD OF 'captionerlaw34.TokenAgain'. -/
def tokenAgainCard : Claim7 := { stood := { row := tokenAgainRow, standIns := [], harness := (true, "6158b2fd477e768da6a942214aee663923314897d7a1ae13f9d187df3722d3a7"), looks := false }, kinds := [], alts := [], laidByText := true, laidKinds := [.data, .pinned], laidTests := true, laidLooks := .later }
def TokenAgainCardSaid : Prop := Claim7.holds Tryd.pinned (.plain (OpenSpec.ofChange tokenAgainSpec)) tokenAgainCard

/-- THE TIED CARD OF 'captionerlaw48.RespeakWords'. -/
def respeakWordsCard : Claim7 := { stood := { row := respeakWordsRow, standIns := [], harness := (true, "6158b2fd477e768da6a942214aee663923314897d7a1ae13f9d187df3722d3a7"), looks := false }, kinds := [], alts := [], laidByText := true, laidKinds := [.data, .pinned], laidTests := true, laidLooks := .later }
def RespeakWordsCardSaid : Prop := Claim7.holds Tryd.pinned (.plain (OpenSpec.ofChange respeakWordsSpec)) respeakWordsCard

/-- THE TIED CARD OF 'captionerlaw48.RespeakLimits'. -/
def respeakLimitsCard : Claim7 := { stood := { row := respeakLimitsRow, standIns := [], harness := (true, "6158b2fd477e768da6a942214aee663923314897d7a1ae13f9d187df3722d3a7"), looks := false }, kinds := [], alts := [], laidByText := true, laidKinds := [.data, .pinned], laidTests := true, laidLooks := .later }
def RespeakLimitsCardSaid : Prop := Claim7.holds Tryd.pinned (.plain (OpenSpec.ofChange respeakLimitsSpec)) respeakLimitsCard

/-- THE TIED CARD OF 'captionerlaw48.RespeakFixes'. -/
def respeakFixesCard : Claim7 := { stood := { row := respeakFixesRow, standIns := [], harness := (true, "6158b2fd477e768da6a942214aee663923314897d7a1ae13f9d187df3722d3a7"), looks := false }, kinds := [], alts := [], laidByText := true, laidKinds := [.data, .pinned], laidTests := true, laidLooks := .later }
def RespeakFixesCardSaid : Prop := Claim7.holds Tryd.pinned (.plain (OpenSpec.ofChange respeakFixesSpec)) respeakFixesCard

/-- THE TIED CARD OF 'captionerlaw48.RespeakPlays'. -/
def respeakPlaysCard : Claim7 := { stood := { row := respeakPlaysRow, standIns := [], harness := (true, "6158b2fd477e768da6a942214aee663923314897d7a1ae13f9d187df3722d3a7"), looks := false }, kinds := [], alts := [], laidByText := true, laidKinds := [.data, .pinned], laidTests := true, laidLooks := .later }
def RespeakPlaysCardSaid : Prop := Claim7.holds Tryd.pinned (.plain (OpenSpec.ofChange respeakPlaysSpec)) respeakPlaysCard

/-- THE TIED CARD OF 'captionerlaw48.RespeakClones'. -/
def respeakClonesCard : Claim7 := { stood := { row := respeakClonesRow, standIns := [], harness := (true, "6158b2fd477e768da6a942214aee663923314897d7a1ae13f9d187df3722d3a7"), looks := false }, kinds := [], alts := [], laidByText := true, laidKinds := [.data, .pinned], laidTests := true, laidLooks := .later }
def RespeakClonesCardSaid : Prop := Claim7.holds Tryd.pinned (.plain (OpenSpec.ofChange respeakClonesSpec)) respeakClonesCard

/-- THE TIED CARD OF 'captionerlaw48.RespeakOrder'. -/
def respeakOrderCard : Claim7 := { stood := { row := respeakOrderRow, standIns := [], harness := (true, "6158b2fd477e768da6a942214aee663923314897d7a1ae13f9d187df3722d3a7"), looks := false }, kinds := [], alts := [], laidByText := true, laidKinds := [.data, .listed, .data, .pinned], laidTests := true, laidLooks := .later }
def RespeakOrderCardSaid : Prop := Claim7.holds Tryd.pinned (.plain (OpenSpec.ofChange respeakOrderSpec)) respeakOrderCard

/-- THE SECOND FORM's CARD OF 'captionerlaw34.TokenSplits'. -/
def tokenSplitsUptoCard : Claim7 := { stood := { row := tokenSplitsUptoRow, standIns := [], harness := (true, "6158b2fd477e768da6a942214aee663923314897d7a1ae13f9d187df3722d3a7"), looks := false }, kinds := [], alts := [], laidByText := true, laidKinds := [.data, .pinned], laidTests := true, laidLooks := .later }
def TokenSplitsUptoCardSaid : Prop := Claim7.holds Tryd.pinned (.plain (OpenSpec.upto tokenSplitsSpec)) tokenSplitsUptoCard

/-- THE SECOND FORM's CARD OF 'captionerlaw34.TokenStrengths'. -/
def tokenStrengthsUptoCard : Claim7 := { stood := { row := tokenStrengthsUptoRow, standIns := [], harness := (true, "6158b2fd477e768da6a942214aee663923314897d7a1ae13f9d187df3722d3a7"), looks := false }, kinds := [], alts := [], laidByText := true, laidKinds := [.data, .pinned], laidTests := true, laidLooks := .later }
def TokenStrengthsUptoCardSaid : Prop := Claim7.holds Tryd.pinned (.plain (OpenSpec.upto tokenStrengthsSpec)) tokenStrengthsUptoCard

/-- THE SECOND FORM's CARD OF 'captionerlaw34.TokenAdds'. -/
def tokenAddsUptoCard : Claim7 := { stood := { row := tokenAddsUptoRow, standIns := [], harness := (true, "6158b2fd477e768da6a942214aee663923314897d7a1ae13f9d187df3722d3a7"), looks := false }, kinds := [], alts := [], laidByText := true, laidKinds := [.data, .pinned], laidTests := true, laidLooks := .later }
def TokenAddsUptoCardSaid : Prop := Claim7.holds Tryd.pinned (.plain (OpenSpec.upto tokenAddsSpec)) tokenAddsUptoCard

/-- THE SECOND FORM's CARD OF 'captionerlaw34.TokenSpaces'. -/
def tokenSpacesUptoCard : Claim7 := { stood := { row := tokenSpacesUptoRow, standIns := [], harness := (true, "6158b2fd477e768da6a942214aee663923314897d7a1ae13f9d187df3722d3a7"), looks := false }, kinds := [], alts := [], laidByText := true, laidKinds := [.data, .pinned], laidTests := true, laidLooks := .later }
def TokenSpacesUptoCardSaid : Prop := Claim7.holds Tryd.pinned (.plain (OpenSpec.upto tokenSpacesSpec)) tokenSpacesUptoCard

/-- THE SECOND FORM's CARD OF 'captionerlaw34.TokenWhole'. -/
def tokenWholeUptoCard : Claim7 := { stood := { row := tokenWholeUptoRow, standIns := [], harness := (true, "6158b2fd477e768da6a942214aee663923314897d7a1ae13f9d187df3722d3a7"), looks := false }, kinds := [], alts := [], laidByText := true, laidKinds := [.data, .pinned], laidTests := true, laidLooks := .later }
def TokenWholeUptoCardSaid : Prop := Claim7.holds Tryd.pinned (.plain (OpenSpec.upto tokenWholeSpec)) tokenWholeUptoCard

/-- THE SECOND FORM's CARD OF 'captionerlaw34.TokenChecks'. -/
def tokenChecksUptoCard : Claim7 := { stood := { row := tokenChecksUptoRow, standIns := [], harness := (true, "6158b2fd477e768da6a942214aee663923314897d7a1ae13f9d187df3722d3a7"), looks := false }, kinds := [], alts := [], laidByText := true, laidKinds := [.data, .pinned], laidTests := true, laidLooks := .later }
def TokenChecksUptoCardSaid : Prop := Claim7.holds Tryd.pinned (.plain (OpenSpec.upto tokenChecksSpec)) tokenChecksUptoCard

/-- THE SECOND FORM's CARD OF 'captionerlaw34.TokenAgain'. -/
def tokenAgainUptoCard : Claim7 := { stood := { row := tokenAgainUptoRow, standIns := [], harness := (true, "6158b2fd477e768da6a942214aee663923314897d7a1ae13f9d187df3722d3a7"), looks := false }, kinds := [], alts := [], laidByText := true, laidKinds := [.data, .pinned], laidTests := true, laidLooks := .later }
def TokenAgainUptoCardSaid : Prop := Claim7.holds Tryd.pinned (.plain (OpenSpec.upto tokenAgainSpec)) tokenAgainUptoCard

/-- THE SECOND FORM's CARD OF 'captionerlaw48.RespeakWords'. -/
def respeakWordsUptoCard : Claim7 := { stood := { row := respeakWordsUptoRow, standIns := [], harness := (true, "6158b2fd477e768da6a942214aee663923314897d7a1ae13f9d187df3722d3a7"), looks := false }, kinds := [], alts := [], laidByText := true, laidKinds := [.data, .pinned], laidTests := true, laidLooks := .later }
def RespeakWordsUptoCardSaid : Prop := Claim7.holds Tryd.pinned (.plain (OpenSpec.upto respeakWordsSpec)) respeakWordsUptoCard

/-- THE SECOND FORM's CARD OF 'captionerlaw48.RespeakLimits'. -/
def respeakLimitsUptoCard : Claim7 := { stood := { row := respeakLimitsUptoRow, standIns := [], harness := (true, "6158b2fd477e768da6a942214aee663923314897d7a1ae13f9d187df3722d3a7"), looks := false }, kinds := [], alts := [], laidByText := true, laidKinds := [.data, .pinned], laidTests := true, laidLooks := .later }
def RespeakLimitsUptoCardSaid : Prop := Claim7.holds Tryd.pinned (.plain (OpenSpec.upto respeakLimitsSpec)) respeakLimitsUptoCard

/-- THE SECOND FORM's CARD OF 'captionerlaw48.RespeakFixes'. -/
def respeakFixesUptoCard : Claim7 := { stood := { row := respeakFixesUptoRow, standIns := [], harness := (true, "6158b2fd477e768da6a942214aee663923314897d7a1ae13f9d187df3722d3a7"), looks := false }, kinds := [], alts := [], laidByText := true, laidKinds := [.data, .pinned], laidTests := true, laidLooks := .later }
def RespeakFixesUptoCardSaid : Prop := Claim7.holds Tryd.pinned (.plain (OpenSpec.upto respeakFixesSpec)) respeakFixesUptoCard

/-- THE SECOND FORM's CARD OF 'captionerlaw48.RespeakPlays'. -/
def respeakPlaysUptoCard : Claim7 := { stood := { row := respeakPlaysUptoRow, standIns := [], harness := (true, "6158b2fd477e768da6a942214aee663923314897d7a1ae13f9d187df3722d3a7"), looks := false }, kinds := [], alts := [], laidByText := true, laidKinds := [.data, .pinned], laidTests := true, laidLooks := .later }
def RespeakPlaysUptoCardSaid : Prop := Claim7.holds Tryd.pinned (.plain (OpenSpec.upto respeakPlaysSpec)) respeakPlaysUptoCard

/-- THE SECOND FORM's CARD OF 'captionerlaw48.RespeakClones'. -/
def respeakClonesUptoCard : Claim7 := { stood := { row := respeakClonesUptoRow, standIns := [], harness := (true, "6158b2fd477e768da6a942214aee663923314897d7a1ae13f9d187df3722d3a7"), looks := false }, kinds := [], alts := [], laidByText := true, laidKinds := [.data, .pinned], laidTests := true, laidLooks := .later }
def RespeakClonesUptoCardSaid : Prop := Claim7.holds Tryd.pinned (.plain (OpenSpec.upto respeakClonesSpec)) respeakClonesUptoCard

/-- THE SECOND FORM's CARD OF 'captionerlaw48.RespeakOrder'. -/
def respeakOrderUptoCard : Claim7 := { stood := { row := respeakOrderUptoRow, standIns := [], harness := (true, "6158b2fd477e768da6a942214aee663923314897d7a1ae13f9d187df3722d3a7"), looks := false }, kinds := [], alts := [], laidByText := true, laidKinds := [.data, .listed, .data, .pinned], laidTests := true, laidLooks := .later }
def RespeakOrderUptoCardSaid : Prop := Claim7.holds Tryd.pinned (.plain (OpenSpec.upto respeakOrderSpec)) respeakOrderUptoCard
end Rows
end Go.Proofs.YtheemefggkcfbaaDoor
