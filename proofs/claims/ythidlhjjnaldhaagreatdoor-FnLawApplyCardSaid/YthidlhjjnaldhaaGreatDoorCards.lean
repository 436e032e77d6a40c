/-
  DERIVED. GIVEN WITH THE SEED: THE CARDS: each row of YthidlhjjnaldhaaGreatDoorRows.lean that lists a variable, with what it lists TIED to the program's text (the seventh form; the later family's looks); each row that meets fmt, with fmt's text TOLD by the authors' own Lean function (tested against real Go, not proved from fmt's source: count such statements apart). THE CARD IS WHAT COUNTS. Prove the row's statement (the work); the ties are given (YthidlhjjnaldhaaGreatDoorTie.lean); close each card by the builder's one call (the guide's Derived/Test/ToyasCard.lean, 'card_holds'). Laid BY PROGRAM, IN A SANDBOX (cutbox-door.mjs). By AI agents, Wed Nov 11 2026. No macro, syntax, notation, axiom, sorry.
-/
import Derived.Test.YthidlhjjnaldhaaGreatDoorRows
import GoSem.ClaimSeven
namespace Go.Proofs.YthidlhjjnaldhaaGreatDoor
namespace Rows

/-- THE TIED CARD OF 'laws.FnRootKept'. -/
def fnRootKeptCard : Claim7 := { stood := { row := fnRootKeptRow, standIns := [], harness := (true, "a581be4df7516b82a3e1f5debee44e2be48e2e9e22830c2b6a17b1aa99a5f80b"), looks := false }, kinds := [], alts := [], laidByText := true, laidKinds := [.data, .data, .data], laidTests := true, laidLooks := .later }
def FnRootKeptCardSaid : Prop := Claim7.holds Tryz.pinned (.plain (OpenSpec.ofChange fnRootKeptSpec)) fnRootKeptCard

/-- THE TIED CARD OF 'laws.FnTermsRoot'. -/
def fnTermsRootCard : Claim7 := { stood := { row := fnTermsRootRow, standIns := [], harness := (true, "a581be4df7516b82a3e1f5debee44e2be48e2e9e22830c2b6a17b1aa99a5f80b"), looks := false }, kinds := [], alts := [], laidByText := true, laidKinds := [.data, .data, .data], laidTests := true, laidLooks := .later }
def FnTermsRootCardSaid : Prop := Claim7.holds Tryz.pinned (.plain (OpenSpec.ofChange fnTermsRootSpec)) fnTermsRootCard

/-- THE TIED CARD OF 'laws.FnLawApply'. -/
def fnLawApplyCard : Claim7 := { stood := { row := fnLawApplyRow, standIns := [], harness := (true, "a581be4df7516b82a3e1f5debee44e2be48e2e9e22830c2b6a17b1aa99a5f80b"), looks := false }, kinds := [], alts := [], laidByText := true, laidKinds := [.data, .data, .data], laidTests := true, laidLooks := .later }
def FnLawApplyCardSaid : Prop := Claim7.holds Tryz.pinned (.plain (OpenSpec.ofChange fnLawApplySpec)) fnLawApplyCard

/-- THE TIED CARD OF 'laws.FnNormalOf'. -/
def fnNormalOfCard : Claim7 := { stood := { row := fnNormalOfRow, standIns := [], harness := (true, "a581be4df7516b82a3e1f5debee44e2be48e2e9e22830c2b6a17b1aa99a5f80b"), looks := false }, kinds := [], alts := [], laidByText := true, laidKinds := [.data, .data, .data], laidTests := true, laidLooks := .later }
def FnNormalOfCardSaid : Prop := Claim7.holds Tryz.pinned (.plain (OpenSpec.ofChange fnNormalOfSpec)) fnNormalOfCard

/-- THE TIED CARD OF 'laws.FnExactTermsWeak'. -/
def fnExactTermsWeakCard : Claim7 := { stood := { row := fnExactTermsWeakRow, standIns := [], harness := (true, "a581be4df7516b82a3e1f5debee44e2be48e2e9e22830c2b6a17b1aa99a5f80b"), looks := false }, kinds := [], alts := [], laidByText := true, laidKinds := [.data, .data, .data], laidTests := true, laidLooks := .later }
def FnExactTermsWeakCardSaid : Prop := Claim7.holds Tryz.pinned (.plain (OpenSpec.ofChange fnExactTermsWeakSpec)) fnExactTermsWeakCard

/-- THE TIED CARD OF 'laws.FnExactTermsRoot'. -/
def fnExactTermsRootCard : Claim7 := { stood := { row := fnExactTermsRootRow, standIns := [], harness := (true, "a581be4df7516b82a3e1f5debee44e2be48e2e9e22830c2b6a17b1aa99a5f80b"), looks := false }, kinds := [], alts := [], laidByText := true, laidKinds := [.data, .data, .data], laidTests := true, laidLooks := .later }
def FnExactTermsRootCardSaid : Prop := Claim7.holds Tryz.pinned (.plain (OpenSpec.ofChange fnExactTermsRootSpec)) fnExactTermsRootCard

/-- THE TIED CARD OF 'laws.FnTermsWeak'. -/
def fnTermsWeakCard : Claim7 := { stood := { row := fnTermsWeakRow, standIns := [], harness := (true, "a581be4df7516b82a3e1f5debee44e2be48e2e9e22830c2b6a17b1aa99a5f80b"), looks := false }, kinds := [], alts := [], laidByText := true, laidKinds := [.data, .data, .data], laidTests := true, laidLooks := .later }
def FnTermsWeakCardSaid : Prop := Claim7.holds Tryz.pinned (.plain (OpenSpec.ofChange fnTermsWeakSpec)) fnTermsWeakCard

/-- THE SECOND FORM's CARD OF 'laws.FnRootKept'. -/
def fnRootKeptUptoCard : Claim7 := { stood := { row := fnRootKeptUptoRow, standIns := [], harness := (true, "a581be4df7516b82a3e1f5debee44e2be48e2e9e22830c2b6a17b1aa99a5f80b"), looks := false }, kinds := [], alts := [], laidByText := true, laidKinds := [.data, .data, .data], laidTests := true, laidLooks := .later }
def FnRootKeptUptoCardSaid : Prop := Claim7.holds Tryz.pinned (.plain (OpenSpec.upto fnRootKeptSpec)) fnRootKeptUptoCard

/-- THE SECOND FORM's CARD OF 'laws.FnTermsRoot'. -/
def fnTermsRootUptoCard : Claim7 := { stood := { row := fnTermsRootUptoRow, standIns := [], harness := (true, "a581be4df7516b82a3e1f5debee44e2be48e2e9e22830c2b6a17b1aa99a5f80b"), looks := false }, kinds := [], alts := [], laidByText := true, laidKinds := [.data, .data, .data], laidTests := true, laidLooks := .later }
def FnTermsRootUptoCardSaid : Prop := Claim7.holds Tryz.pinned (.plain (OpenSpec.upto fnTermsRootSpec)) fnTermsRootUptoCard

/-- THE SECOND FORM's CARD OF 'laws.FnLawApply'. -/
def fnLawApplyUptoCard : Claim7 := { stood := { row := fnLawApplyUptoRow, standIns := [], harness := (true, "a581be4df7516b82a3e1f5debee44e2be48e2e9e22830c2b6a17b1aa99a5f80b"), looks := false }, kinds := [], alts := [], laidByText := true, laidKinds := [.data, .data, .data], laidTests := true, laidLooks := .later }
def FnLawApplyUptoCardSaid : Prop := Claim7.holds Tryz.pinned (.plain (OpenSpec.upto fnLawApplySpec)) fnLawApplyUptoCard

/-- THE SECOND FORM's CARD OF 'laws.FnNormalOf'. -/
def fnNormalOfUptoCard : Claim7 := { stood := { row := fnNormalOfUptoRow, standIns := [], harness := (true, "a581be4df7516b82a3e1f5debee44e2be48e2e9e22830c2b6a17b1aa99a5f80b"), looks := false }, kinds := [], alts := [], laidByText := true, laidKinds := [.data, .data, .data], laidTests := true, laidLooks := .later }
def FnNormalOfUptoCardSaid : Prop := Claim7.holds Tryz.pinned (.plain (OpenSpec.upto fnNormalOfSpec)) fnNormalOfUptoCard

/-- THE SECOND FORM's CARD OF 'laws.FnExactTermsWeak'. -/
def fnExactTermsWeakUptoCard : Claim7 := { stood := { row := fnExactTermsWeakUptoRow, standIns := [], harness := (true, "a581be4df7516b82a3e1f5debee44e2be48e2e9e22830c2b6a17b1aa99a5f80b"), looks := false }, kinds := [], alts := [], laidByText := true, laidKinds := [.data, .data, .data], laidTests := true, laidLooks := .later }
def FnExactTermsWeakUptoCardSaid : Prop := Claim7.holds Tryz.pinned (.plain (OpenSpec.upto fnExactTermsWeakSpec)) fnExactTermsWeakUptoCard

/-- THE SECOND FORM's CARD OF 'laws.FnExactTermsRoot'. -/
def fnExactTermsRootUptoCard : Claim7 := { stood := { row := fnExactTermsRootUptoRow, standIns := [], harness := (true, "a581be4df7516b82a3e1f5debee44e2be48e2e9e22830c2b6a17b1aa99a5f80b"), looks := false }, kinds := [], alts := [], laidByText := true, laidKinds := [.data, .data, .data], laidTests := true, laidLooks := .later }
def FnExactTermsRootUptoCardSaid : Prop := Claim7.holds Tryz.pinned (.plain (OpenSpec.upto fnExactTermsRootSpec)) fnExactTermsRootUptoCard

/-- THE SECOND FORM's CARD OF 'laws.FnTermsWeak'. -/
def fnTermsWeakUptoCard : Claim7 := { stood := { row := fnTermsWeakUptoRow, standIns := [], harness := (true, "a581be4df7516b82a3e1f5debee44e2be48e2e9e22830c2b6a17b1aa99a5f80b"), looks := false }, kinds := [], alts := [], laidByText := true, laidKinds := [.data, .data, .data], laidTests := true, laidLooks := .later }
def FnTermsWeakUptoCardSaid : Prop := Claim7.holds Tryz.pinned (.plain (OpenSpec.upto fnTermsWeakSpec)) fnTermsWeakUptoCard
end Rows
end Go.Proofs.YthidlhjjnaldhaaGreatDoor
