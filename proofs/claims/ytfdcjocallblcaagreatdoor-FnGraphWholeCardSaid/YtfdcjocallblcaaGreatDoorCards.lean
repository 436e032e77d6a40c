/-
  DERIVED. GIVEN WITH THE SEED: THE CARDS: each row of YtfdcjocallblcaaGreatDoorRows.lean that lists a variable, with what it lists TIED to the program's text (the seventh form; the later family's looks); each row that meets fmt, with fmt's text TOLD by the authors' own Lean function (tested against real Go, not proved from fmt's source: count such statements apart). THE CARD IS WHAT COUNTS. Prove the row's statement (the work); the ties are given (YtfdcjocallblcaaGreatDoorTie.lean); close each card by the builder's one call (the guide's Derived/Test/ToyasCard.lean, 'card_holds'). Laid BY PROGRAM, IN A SANDBOX (cutbox-door.mjs). By AI agents, Wed Nov 11 2026. No macro, syntax, notation, axiom, sorry.
-/
import Derived.Test.YtfdcjocallblcaaGreatDoorRows
import GoSem.ClaimSeven
namespace Go.Proofs.YtfdcjocallblcaaGreatDoor
namespace Rows

/-- THE TIED CARD OF 'laws.FnGraphWhole'. -/
def fnGraphWholeCard : Claim7 := { stood := { row := fnGraphWholeRow, standIns := [], harness := (true, "e9a416b73d55f410f3afe5c43fa7e815f2ae5253662b2dc476e81611b3a319b9"), looks := false }, kinds := [], alts := [], laidByText := true, laidKinds := [.data, .data, .data], laidTests := true, laidLooks := .later }
def FnGraphWholeCardSaid : Prop := Claim7.holds Tryz.pinned (.plain (OpenSpec.ofChange fnGraphWholeSpec)) fnGraphWholeCard

/-- THE SECOND FORM's CARD OF 'laws.FnGraphWhole'. -/
def fnGraphWholeUptoCard : Claim7 := { stood := { row := fnGraphWholeUptoRow, standIns := [], harness := (true, "e9a416b73d55f410f3afe5c43fa7e815f2ae5253662b2dc476e81611b3a319b9"), looks := false }, kinds := [], alts := [], laidByText := true, laidKinds := [.data, .data, .data], laidTests := true, laidLooks := .later }
def FnGraphWholeUptoCardSaid : Prop := Claim7.holds Tryz.pinned (.plain (OpenSpec.upto fnGraphWholeSpec)) fnGraphWholeUptoCard
end Rows
end Go.Proofs.YtfdcjocallblcaaGreatDoor
