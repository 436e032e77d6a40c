/-
  No cell of these rows narrows 'for every input' (looked for: loops, veiled, ifaces, maps, wideKeys, modest, calm, conditions, laid).
  DERIVED. THE GIVEN ROWS OF THIS SEAT. 3 by the template 'for every input the law returns true; each argument reads behind the call as it read before'; 0 by the template 'total and deterministic' (their statements: YtffkhhblppfbfaaTotals.lean).
  GIVEN WITH THE SEED: the statements are not yours to turn. If you find one false, say at which input.
  Laid BY PROGRAM, IN A SANDBOX (cutbox-rows.mjs): the forced cells as the released guide's own fill.sh prints them over the translation 075676e62a115693… (all of the seat's roots in one cut). By AI agents, Wed Nov 11 2026. No macro, syntax, notation, axiom, sorry.
-/
import Derived.Test.YtffkhhblppfbfaaChecked
import GoSem.Claim
import GoSem.ClaimJoined
import GoSem.ClaimMapViews
import Derived.JoinedTies
import Derived.KernelRfl
namespace Go.Proofs.Ytffkhhblppfbfaa
/- THE CELL 'sum', in the pinned program and in every row, IS THE sha256 OF THE DUMP (.gsa) THAT YtffkhhblppfbfaaProg.lean LOADS. Nothing in Lean hashes anything: it is a label: what it is worth is what the hold of that sum in a sandbox is worth. -/
noncomputable def Try.pinned : Pinned := { name := "ytffkhhblppfbfaa", sum := "075676e62a1156930d2aaf867f9feeafdc8b7f5524fb7440eea5a97197e3503d", checked := Try.checked }
namespace Rows
def none {H : Type} : Left H := { results := [], args := [] }

/-- 'laws.FnExactFormTells': WHATEVER THE INPUT: true; the input reads as it did. -/
def fnExactFormTellsSpec : ChangeSpec := { name := "fnExactFormTells", fn := fun _ => fun
  | [d1, d2, d3] => { results := [.lit (.bool true)], args := [d1, d2, d3] }
  | _ => none }
def fnExactFormTellsRow : OpenClaim := { program := "ytffkhhblppfbfaa", sum := "075676e62a1156930d2aaf867f9feeafdc8b7f5524fb7440eea5a97197e3503d", func := "loop.example/mobilenames/laws.FnExactFormTells", spec := "fnExactFormTells", unfollowed := true, recurses := true, apart := false }
def FnExactFormTellsSaid : Prop := fnExactFormTellsRow.holds Try.pinned (OpenSpec.ofChange fnExactFormTellsSpec)

/-- ITS FALSE NEIGHBOUR: 'it returns false'. Refute it at one input. -/
def fnExactFormTellsWrong : ChangeSpec := { name := "fnExactFormTells", fn := fun _ => fun
  | [d1, d2, d3] => { results := [.lit (.bool false)], args := [d1, d2, d3] }
  | _ => none }
def FnExactFormTellsWrongFalsely : Prop := fnExactFormTellsRow.holds Try.pinned (OpenSpec.ofChange fnExactFormTellsWrong)

/-- 'laws.FnTellsNone': WHATEVER THE INPUT: true; the input reads as it did. -/
def fnTellsNoneSpec : ChangeSpec := { name := "fnTellsNone", fn := fun _ => fun
  | [d] => { results := [.lit (.bool true)], args := [d] }
  | _ => none }
def fnTellsNoneRow : OpenClaim := { program := "ytffkhhblppfbfaa", sum := "075676e62a1156930d2aaf867f9feeafdc8b7f5524fb7440eea5a97197e3503d", func := "loop.example/mobilenames/laws.FnTellsNone", spec := "fnTellsNone", unfollowed := true, recurses := true, apart := false }
def FnTellsNoneSaid : Prop := fnTellsNoneRow.holds Try.pinned (OpenSpec.ofChange fnTellsNoneSpec)

/-- ITS FALSE NEIGHBOUR: 'it returns false'. Refute it at one input. -/
def fnTellsNoneWrong : ChangeSpec := { name := "fnTellsNone", fn := fun _ => fun
  | [d] => { results := [.lit (.bool false)], args := [d] }
  | _ => none }
def FnTellsNoneWrongFalsely : Prop := fnTellsNoneRow.holds Try.pinned (OpenSpec.ofChange fnTellsNoneWrong)

/-- 'laws.FnFormTells': WHATEVER THE INPUT: true; the input reads as it did. -/
def fnFormTellsSpec : ChangeSpec := { name := "fnFormTells", fn := fun _ => fun
  | [d] => { results := [.lit (.bool true)], args := [d] }
  | _ => none }
def fnFormTellsRow : OpenClaim := { program := "ytffkhhblppfbfaa", sum := "075676e62a1156930d2aaf867f9feeafdc8b7f5524fb7440eea5a97197e3503d", func := "loop.example/mobilenames/laws.FnFormTells", spec := "fnFormTells", unfollowed := true, recurses := true, apart := false }
def FnFormTellsSaid : Prop := fnFormTellsRow.holds Try.pinned (OpenSpec.ofChange fnFormTellsSpec)

/-- ITS FALSE NEIGHBOUR: 'it returns false'. Refute it at one input. -/
def fnFormTellsWrong : ChangeSpec := { name := "fnFormTells", fn := fun _ => fun
  | [d] => { results := [.lit (.bool false)], args := [d] }
  | _ => none }
def FnFormTellsWrongFalsely : Prop := fnFormTellsRow.holds Try.pinned (OpenSpec.ofChange fnFormTellsWrong)

/- THE SECOND FORM. 'bulk': how many values and letters a reading holds, each counted each time it is reached (what is shared counts as often as it is met; a slice's spare places count too). A statement '..UptoSaid' is the law's where the arguments, and the package variables that the reading takes, are together of bulk at most 1048576: NARROWER than '..Said'. Prove '..Said' where nothing that the law and all that it calls make is longer than what came in: it says more and counts as full. Else prove '..UptoSaid'. A law counts once. -/
mutual
def uptoBulk {H : Type} : DataW H → Nat
  | .lit (.string bytes) => bytes.length + 1
  | .lit _ => 1
  | .nil => 1
  | .ptr d => uptoBulk d + 1
  | .slice elems spare => uptoBulkAll elems + uptoBulkAll spare + 1
  | .agg parts => uptoBulkAll parts + 1
  | .iface _ d => uptoBulk d + 1
  | .map entries => uptoBulkEntries entries + 1
  | .held _ => 1
def uptoBulkAll {H : Type} : List (DataW H) → Nat
  | [] => 0
  | d :: r => uptoBulk d + uptoBulkAll r
def uptoBulkEntries {H : Type} : List (Lit × DataW H) → Nat
  | [] => 0
  | x :: r => uptoBulkEntry x + uptoBulkEntries r
def uptoBulkEntry {H : Type} : Lit × DataW H → Nat
  | (.string bytes, d) => bytes.length + uptoBulk d + 1
  | (_, d) => uptoBulk d + 1
 end
def uptoSmall : (H : Type) → List (DataW H) → Bool := fun _ ds => decide (uptoBulkAll ds ≤ 1048576)
def OpenSpec.upto (s : _root_.Go.ChangeSpec) : _root_.Go.OpenSpec := { _root_.Go.OpenSpec.ofChange s with cond := some uptoSmall }

/-- 'laws.FnExactFormTells', WHERE WHAT IT READS IS OF BULK AT MOST 1048576: true; the input reads as it did. -/
def fnExactFormTellsUptoRow : OpenClaim := { program := "ytffkhhblppfbfaa", sum := "075676e62a1156930d2aaf867f9feeafdc8b7f5524fb7440eea5a97197e3503d", func := "loop.example/mobilenames/laws.FnExactFormTells", spec := "fnExactFormTells", unfollowed := true, recurses := true, apart := false, narrowed := true }
def FnExactFormTellsUptoSaid : Prop := fnExactFormTellsUptoRow.holds Try.pinned (OpenSpec.upto fnExactFormTellsSpec)

/-- 'laws.FnTellsNone', WHERE WHAT IT READS IS OF BULK AT MOST 1048576: true; the input reads as it did. -/
def fnTellsNoneUptoRow : OpenClaim := { program := "ytffkhhblppfbfaa", sum := "075676e62a1156930d2aaf867f9feeafdc8b7f5524fb7440eea5a97197e3503d", func := "loop.example/mobilenames/laws.FnTellsNone", spec := "fnTellsNone", unfollowed := true, recurses := true, apart := false, narrowed := true }
def FnTellsNoneUptoSaid : Prop := fnTellsNoneUptoRow.holds Try.pinned (OpenSpec.upto fnTellsNoneSpec)

/-- 'laws.FnFormTells', WHERE WHAT IT READS IS OF BULK AT MOST 1048576: true; the input reads as it did. -/
def fnFormTellsUptoRow : OpenClaim := { program := "ytffkhhblppfbfaa", sum := "075676e62a1156930d2aaf867f9feeafdc8b7f5524fb7440eea5a97197e3503d", func := "loop.example/mobilenames/laws.FnFormTells", spec := "fnFormTells", unfollowed := true, recurses := true, apart := false, narrowed := true }
def FnFormTellsUptoSaid : Prop := fnFormTellsUptoRow.holds Try.pinned (OpenSpec.upto fnFormTellsSpec)

end Rows
end Go.Proofs.Ytffkhhblppfbfaa
