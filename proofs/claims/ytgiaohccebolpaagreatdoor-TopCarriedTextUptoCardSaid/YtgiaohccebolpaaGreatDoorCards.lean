/-
  DERIVED. GIVEN WITH THE SEED: THE CARDS: each row of YtgiaohccebolpaaGreatDoorRows.lean that lists a variable, with what it lists TIED to the program's text (the seventh form; the later family's looks); each row that meets fmt, with fmt's text TOLD by the authors' own Lean function (tested against real Go, not proved from fmt's source: count such statements apart). THE CARD IS WHAT COUNTS. Prove the row's statement (the work); the ties are given (YtgiaohccebolpaaGreatDoorTie.lean); close each card by the builder's one call (the guide's Derived/Test/ToyasCard.lean, 'card_holds'). Laid BY PROGRAM, IN A SANDBOX (cutbox-door.mjs). By AI agents, Wed Nov 11 2026. No macro, syntax, notation, axiom, sorry.
-/
import Derived.Test.YtgiaohccebolpaaGreatDoorRows
import GoSem.ClaimSeven
namespace Go.Proofs.YtgiaohccebolpaaGreatDoor
namespace Rows

/-- THE TIED CARD OF 'captionertop.TopCarriedText'. -/
def topCarriedTextCard : Claim7 := { stood := { row := topCarriedTextRow, standIns := [], harness := (true, "bb16bec83e510d8e4f1a527ad2e8f68910e745bbc85d2ef4072a0473687e9eb4"), looks := false }, kinds := [], alts := [], laidByText := true, laidKinds := [.data, .data, .data, .data, .pinned], laidTests := true, laidLooks := .later }
def TopCarriedTextCardSaid : Prop := Claim7.holds Tryz.pinned (.plain (OpenSpec.ofChange topCarriedTextSpec)) topCarriedTextCard

/-- THE SECOND FORM's CARD OF 'captionertop.TopCarriedText'. -/
def topCarriedTextUptoCard : Claim7 := { stood := { row := topCarriedTextUptoRow, standIns := [], harness := (true, "bb16bec83e510d8e4f1a527ad2e8f68910e745bbc85d2ef4072a0473687e9eb4"), looks := false }, kinds := [], alts := [], laidByText := true, laidKinds := [.data, .data, .data, .data, .pinned], laidTests := true, laidLooks := .later }
def TopCarriedTextUptoCardSaid : Prop := Claim7.holds Tryz.pinned (.plain (OpenSpec.upto topCarriedTextSpec)) topCarriedTextUptoCard
end Rows
end Go.Proofs.YtgiaohccebolpaaGreatDoor
