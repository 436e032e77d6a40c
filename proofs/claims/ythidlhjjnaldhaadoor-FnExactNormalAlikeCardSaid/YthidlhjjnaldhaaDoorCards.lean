/-
  DERIVED. GIVEN WITH THE SEED: THE CARDS: each row of YthidlhjjnaldhaaDoorRows.lean that lists a variable, with what it lists TIED to the program's text (the seventh form; the later family's looks); each row that meets fmt, with fmt's text TOLD by the authors' own Lean function (tested against real Go, not proved from fmt's source: count such statements apart). THE CARD IS WHAT COUNTS. Prove the row's statement (the work); the ties are given (YthidlhjjnaldhaaDoorTie.lean); close each card by the builder's one call (the guide's Derived/Test/ToyasCard.lean, 'card_holds'). Laid BY PROGRAM, IN A SANDBOX (cutbox-door.mjs). By AI agents, Wed Nov 11 2026. No macro, syntax, notation, axiom, sorry.
-/
import Derived.Test.YthidlhjjnaldhaaDoorRows
import GoSem.ClaimSeven
namespace Go.Proofs.YthidlhjjnaldhaaDoor
namespace Rows

/-- THE TIED CARD OF 'laws.FnExactLawApply'. -/
def fnExactLawApplyCard : Claim7 := { stood := { row := fnExactLawApplyRow, standIns := [], harness := (true, "f493bfa95c468d53ec6ee216e1e78824151fb6a6ae47556a81e7c12dc57ab4ad"), looks := false }, kinds := [], alts := [], laidByText := true, laidKinds := [.data, .data, .data], laidTests := true, laidLooks := .later }
def FnExactLawApplyCardSaid : Prop := Claim7.holds Tryd.pinned (.plain (OpenSpec.ofChange fnExactLawApplySpec)) fnExactLawApplyCard

/-- THE TIED CARD OF 'laws.FnExactNormalAlike'. -/
def fnExactNormalAlikeCard : Claim7 := { stood := { row := fnExactNormalAlikeRow, standIns := [], harness := (true, "f493bfa95c468d53ec6ee216e1e78824151fb6a6ae47556a81e7c12dc57ab4ad"), looks := false }, kinds := [], alts := [], laidByText := true, laidKinds := [.data, .data, .data], laidTests := true, laidLooks := .later }
def FnExactNormalAlikeCardSaid : Prop := Claim7.holds Tryd.pinned (.plain (OpenSpec.ofChange fnExactNormalAlikeSpec)) fnExactNormalAlikeCard

/-- THE TIED CARD OF 'laws.FnExactNormalOf'. -/
def fnExactNormalOfCard : Claim7 := { stood := { row := fnExactNormalOfRow, standIns := [], harness := (true, "f493bfa95c468d53ec6ee216e1e78824151fb6a6ae47556a81e7c12dc57ab4ad"), looks := false }, kinds := [], alts := [], laidByText := true, laidKinds := [.data, .data, .data], laidTests := true, laidLooks := .later }
def FnExactNormalOfCardSaid : Prop := Claim7.holds Tryd.pinned (.plain (OpenSpec.ofChange fnExactNormalOfSpec)) fnExactNormalOfCard

/-- THE SECOND FORM's CARD OF 'laws.FnExactLawApply'. -/
def fnExactLawApplyUptoCard : Claim7 := { stood := { row := fnExactLawApplyUptoRow, standIns := [], harness := (true, "f493bfa95c468d53ec6ee216e1e78824151fb6a6ae47556a81e7c12dc57ab4ad"), looks := false }, kinds := [], alts := [], laidByText := true, laidKinds := [.data, .data, .data], laidTests := true, laidLooks := .later }
def FnExactLawApplyUptoCardSaid : Prop := Claim7.holds Tryd.pinned (.plain (OpenSpec.upto fnExactLawApplySpec)) fnExactLawApplyUptoCard

/-- THE SECOND FORM's CARD OF 'laws.FnExactNormalAlike'. -/
def fnExactNormalAlikeUptoCard : Claim7 := { stood := { row := fnExactNormalAlikeUptoRow, standIns := [], harness := (true, "f493bfa95c468d53ec6ee216e1e78824151fb6a6ae47556a81e7c12dc57ab4ad"), looks := false }, kinds := [], alts := [], laidByText := true, laidKinds := [.data, .data, .data], laidTests := true, laidLooks := .later }
def FnExactNormalAlikeUptoCardSaid : Prop := Claim7.holds Tryd.pinned (.plain (OpenSpec.upto fnExactNormalAlikeSpec)) fnExactNormalAlikeUptoCard

/-- THE SECOND FORM's CARD OF 'laws.FnExactNormalOf'. -/
def fnExactNormalOfUptoCard : Claim7 := { stood := { row := fnExactNormalOfUptoRow, standIns := [], harness := (true, "f493bfa95c468d53ec6ee216e1e78824151fb6a6ae47556a81e7c12dc57ab4ad"), looks := false }, kinds := [], alts := [], laidByText := true, laidKinds := [.data, .data, .data], laidTests := true, laidLooks := .later }
def FnExactNormalOfUptoCardSaid : Prop := Claim7.holds Tryd.pinned (.plain (OpenSpec.upto fnExactNormalOfSpec)) fnExactNormalOfUptoCard
end Rows
end Go.Proofs.YthidlhjjnaldhaaDoor
