/-
  DERIVED. GIVEN WITH THE SEED: THE CARDS: each row of YtffkhhblppfbfaaGreatDoorRows.lean that lists a variable, with what it lists TIED to the program's text (the seventh form; the later family's looks); each row that meets fmt, with fmt's text TOLD by the authors' own Lean function (tested against real Go, not proved from fmt's source: count such statements apart). THE CARD IS WHAT COUNTS. Prove the row's statement (the work); the ties are given (YtffkhhblppfbfaaGreatDoorTie.lean); close each card by the builder's one call (the guide's Derived/Test/ToyasCard.lean, 'card_holds'). Laid BY PROGRAM, IN A SANDBOX (cutbox-door.mjs). By AI agents, Wed Nov 11 2026. No macro, syntax, notation, axiom, sorry.
-/
import Derived.Test.YtffkhhblppfbfaaGreatDoorRows
import GoSem.ClaimSeven
namespace Go.Proofs.YtffkhhblppfbfaaGreatDoor
namespace Rows

/-- THE TIED CARD OF 'laws.FnGraphWhole'. -/
def fnGraphWholeCard : Claim7 := { stood := { row := fnGraphWholeRow, standIns := [], harness := (true, "ba70a2f839378ea9efab15789f23c6917d8d3404b47b4e20a4fed8d775638f79"), looks := false }, kinds := [], alts := [], laidByText := true, laidKinds := [.data, .data, .data], laidTests := true, laidLooks := .later }
def FnGraphWholeCardSaid : Prop := Claim7.holds Tryz.pinned (.plain (OpenSpec.ofChange fnGraphWholeSpec)) fnGraphWholeCard

/-- THE TIED CARD OF 'laws.FnSureGraph'. -/
def fnSureGraphCard : Claim7 := { stood := { row := fnSureGraphRow, standIns := [], harness := (true, "ba70a2f839378ea9efab15789f23c6917d8d3404b47b4e20a4fed8d775638f79"), looks := false }, kinds := [], alts := [], laidByText := true, laidKinds := [.data, .data, .data], laidTests := true, laidLooks := .later }
def FnSureGraphCardSaid : Prop := Claim7.holds Tryz.pinned (.plain (OpenSpec.ofChange fnSureGraphSpec)) fnSureGraphCard

/-- THE TIED CARD OF 'laws.FnFailSure'. -/
def fnFailSureCard : Claim7 := { stood := { row := fnFailSureRow, standIns := [], harness := (true, "ba70a2f839378ea9efab15789f23c6917d8d3404b47b4e20a4fed8d775638f79"), looks := false }, kinds := [], alts := [], laidByText := true, laidKinds := [.data, .data, .data], laidTests := true, laidLooks := .later }
def FnFailSureCardSaid : Prop := Claim7.holds Tryz.pinned (.plain (OpenSpec.ofChange fnFailSureSpec)) fnFailSureCard

/-- THE SECOND FORM's CARD OF 'laws.FnGraphWhole'. -/
def fnGraphWholeUptoCard : Claim7 := { stood := { row := fnGraphWholeUptoRow, standIns := [], harness := (true, "ba70a2f839378ea9efab15789f23c6917d8d3404b47b4e20a4fed8d775638f79"), looks := false }, kinds := [], alts := [], laidByText := true, laidKinds := [.data, .data, .data], laidTests := true, laidLooks := .later }
def FnGraphWholeUptoCardSaid : Prop := Claim7.holds Tryz.pinned (.plain (OpenSpec.upto fnGraphWholeSpec)) fnGraphWholeUptoCard

/-- THE SECOND FORM's CARD OF 'laws.FnSureGraph'. -/
def fnSureGraphUptoCard : Claim7 := { stood := { row := fnSureGraphUptoRow, standIns := [], harness := (true, "ba70a2f839378ea9efab15789f23c6917d8d3404b47b4e20a4fed8d775638f79"), looks := false }, kinds := [], alts := [], laidByText := true, laidKinds := [.data, .data, .data], laidTests := true, laidLooks := .later }
def FnSureGraphUptoCardSaid : Prop := Claim7.holds Tryz.pinned (.plain (OpenSpec.upto fnSureGraphSpec)) fnSureGraphUptoCard

/-- THE SECOND FORM's CARD OF 'laws.FnFailSure'. -/
def fnFailSureUptoCard : Claim7 := { stood := { row := fnFailSureUptoRow, standIns := [], harness := (true, "ba70a2f839378ea9efab15789f23c6917d8d3404b47b4e20a4fed8d775638f79"), looks := false }, kinds := [], alts := [], laidByText := true, laidKinds := [.data, .data, .data], laidTests := true, laidLooks := .later }
def FnFailSureUptoCardSaid : Prop := Claim7.holds Tryz.pinned (.plain (OpenSpec.upto fnFailSureSpec)) fnFailSureUptoCard
end Rows
end Go.Proofs.YtffkhhblppfbfaaGreatDoor
