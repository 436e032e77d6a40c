/-
  DERIVED. GIVEN WITH THE SEED: THE CARDS: each row of YtffkhhblppfbfaaDoorRows.lean that lists a variable, with what it lists TIED to the program's text (the seventh form; the later family's looks); each row that meets fmt, with fmt's text TOLD by the authors' own Lean function (tested against real Go, not proved from fmt's source: count such statements apart). THE CARD IS WHAT COUNTS. Prove the row's statement (the work); the ties are given (YtffkhhblppfbfaaDoorTie.lean); close each card by the builder's one call (the guide's Derived/Test/ToyasCard.lean, 'card_holds'). Laid BY PROGRAM, IN A SANDBOX (cutbox-door.mjs). By AI agents, Wed Nov 11 2026. No macro, syntax, notation, axiom, sorry.
-/
import Derived.Test.YtffkhhblppfbfaaDoorRows
import GoSem.ClaimSeven
namespace Go.Proofs.YtffkhhblppfbfaaDoor
namespace Rows

/-- THE TIED CARD OF 'laws.FnExactFailSure'. -/
def fnExactFailSureCard : Claim7 := { stood := { row := fnExactFailSureRow, standIns := [], harness := (true, "54a9a388f5433d1beae8870f8ec68008338a0f754538dec7b4ba1217ca22381a"), looks := false }, kinds := [], alts := [], laidByText := true, laidKinds := [.data, .data, .data], laidTests := true, laidLooks := .later }
def FnExactFailSureCardSaid : Prop := Claim7.holds Tryd.pinned (.plain (OpenSpec.ofChange fnExactFailSureSpec)) fnExactFailSureCard

/-- THE TIED CARD OF 'laws.FnExactSureGraph'. -/
def fnExactSureGraphCard : Claim7 := { stood := { row := fnExactSureGraphRow, standIns := [], harness := (true, "54a9a388f5433d1beae8870f8ec68008338a0f754538dec7b4ba1217ca22381a"), looks := false }, kinds := [], alts := [], laidByText := true, laidKinds := [.data, .data, .data], laidTests := true, laidLooks := .later }
def FnExactSureGraphCardSaid : Prop := Claim7.holds Tryd.pinned (.plain (OpenSpec.ofChange fnExactSureGraphSpec)) fnExactSureGraphCard

/-- THE SECOND FORM's CARD OF 'laws.FnExactFailSure'. -/
def fnExactFailSureUptoCard : Claim7 := { stood := { row := fnExactFailSureUptoRow, standIns := [], harness := (true, "54a9a388f5433d1beae8870f8ec68008338a0f754538dec7b4ba1217ca22381a"), looks := false }, kinds := [], alts := [], laidByText := true, laidKinds := [.data, .data, .data], laidTests := true, laidLooks := .later }
def FnExactFailSureUptoCardSaid : Prop := Claim7.holds Tryd.pinned (.plain (OpenSpec.upto fnExactFailSureSpec)) fnExactFailSureUptoCard

/-- THE SECOND FORM's CARD OF 'laws.FnExactSureGraph'. -/
def fnExactSureGraphUptoCard : Claim7 := { stood := { row := fnExactSureGraphUptoRow, standIns := [], harness := (true, "54a9a388f5433d1beae8870f8ec68008338a0f754538dec7b4ba1217ca22381a"), looks := false }, kinds := [], alts := [], laidByText := true, laidKinds := [.data, .data, .data], laidTests := true, laidLooks := .later }
def FnExactSureGraphUptoCardSaid : Prop := Claim7.holds Tryd.pinned (.plain (OpenSpec.upto fnExactSureGraphSpec)) fnExactSureGraphUptoCard
end Rows
end Go.Proofs.YtffkhhblppfbfaaDoor
