/-
  No cell of these rows narrows 'for every input' (looked for: loops, veiled, ifaces, maps, wideKeys, modest, calm, conditions, laid).
  DERIVED. THE GIVEN ROWS OF THIS SEAT. 2 by the template 'for every input the law returns true; each argument reads behind the call as it read before'; 0 by the template 'total and deterministic' (their statements: YtffkhhblppfbfaaGreatTotals.lean).
  GIVEN WITH THE SEED: the statements are not yours to turn. If you find one false, say at which input.
  Laid BY PROGRAM, IN A SANDBOX (cutbox-rows.mjs): the forced cells as the released guide's own fill.sh prints them over the translation b90797cd763d0dfa… (all of the seat's roots in one cut). By AI agents, Wed Nov 11 2026. No macro, syntax, notation, axiom, sorry.
-/
import Derived.Test.YtffkhhblppfbfaaGreatChecked
import GoSem.Claim
import GoSem.ClaimJoined
import GoSem.ClaimMapViews
import Derived.JoinedTies
import Derived.KernelRfl
namespace Go.Proofs.YtffkhhblppfbfaaGreat
/- THE CELL 'sum', in the pinned program and in every row, IS THE sha256 OF THE DUMP (.gsa) THAT YtffkhhblppfbfaaGreatProg.lean LOADS. Nothing in Lean hashes anything: it is a label: what it is worth is what the hold of that sum in a sandbox is worth. -/
noncomputable def Tryz.pinned : Pinned := { name := "ytffkhhblppfbfaagreat", sum := "b90797cd763d0dfa06f055241bb99e90bf66293f917ff21960de64c048e9648a", checked := Tryz.checked }
namespace Rows
def none {H : Type} : Left H := { results := [], args := [] }

/-- 'laws.FnTraceDoes': WHATEVER THE INPUT: true; the input reads as it did. -/
def fnTraceDoesSpec : ChangeSpec := { name := "fnTraceDoes", fn := fun _ => fun
  | [d] => { results := [.lit (.bool true)], args := [d] }
  | _ => none }
def fnTraceDoesRow : OpenClaim := { program := "ytffkhhblppfbfaagreat", sum := "b90797cd763d0dfa06f055241bb99e90bf66293f917ff21960de64c048e9648a", func := "loop.example/mobilenames/laws.FnTraceDoes", spec := "fnTraceDoes", unfollowed := true, recurses := true, apart := false }
def FnTraceDoesSaid : Prop := fnTraceDoesRow.holds Tryz.pinned (OpenSpec.ofChange fnTraceDoesSpec)

/-- ITS FALSE NEIGHBOUR: 'it returns false'. Refute it at one input. -/
def fnTraceDoesWrong : ChangeSpec := { name := "fnTraceDoes", fn := fun _ => fun
  | [d] => { results := [.lit (.bool false)], args := [d] }
  | _ => none }
def FnTraceDoesWrongFalsely : Prop := fnTraceDoesRow.holds Tryz.pinned (OpenSpec.ofChange fnTraceDoesWrong)

/-- 'laws.FnFailDoes': WHATEVER THE INPUT: true; the input reads as it did. -/
def fnFailDoesSpec : ChangeSpec := { name := "fnFailDoes", fn := fun _ => fun
  | [d] => { results := [.lit (.bool true)], args := [d] }
  | _ => none }
def fnFailDoesRow : OpenClaim := { program := "ytffkhhblppfbfaagreat", sum := "b90797cd763d0dfa06f055241bb99e90bf66293f917ff21960de64c048e9648a", func := "loop.example/mobilenames/laws.FnFailDoes", spec := "fnFailDoes", unfollowed := true, recurses := true, apart := false }
def FnFailDoesSaid : Prop := fnFailDoesRow.holds Tryz.pinned (OpenSpec.ofChange fnFailDoesSpec)

/-- ITS FALSE NEIGHBOUR: 'it returns false'. Refute it at one input. -/
def fnFailDoesWrong : ChangeSpec := { name := "fnFailDoes", fn := fun _ => fun
  | [d] => { results := [.lit (.bool false)], args := [d] }
  | _ => none }
def FnFailDoesWrongFalsely : Prop := fnFailDoesRow.holds Tryz.pinned (OpenSpec.ofChange fnFailDoesWrong)

/- THE SECOND FORM. 'bulk': how many values and letters a reading holds, each counted each time it is reached (what is shared counts as often as it is met; a slice's spare places count too). A statement '..UptoSaid' is the law's where the arguments, and the package variables that the reading takes, are together of bulk at most 1048576: NARROWER than '..Said'. Prove '..Said' where nothing that the law and all that it calls make is longer than what came in: it says more and counts as full. Else prove '..UptoSaid'. A law counts once. -/
mutual
def uptoBulk {H : Type} : DataW H → Nat
  | .lit (.string bytes) => bytes.length + 1
  | .lit _ => 1
  | .nil => 1
  | .ptr d => uptoBulk d + 1
  | .slice elems spare => uptoBulkAll elems + uptoBulkAll spare + 1
  | .agg parts => uptoBulkAll parts + 1
  | .iface _ d => uptoBulk d + 1
  | .map entries => uptoBulkEntries entries + 1
  | .held _ => 1
def uptoBulkAll {H : Type} : List (DataW H) → Nat
  | [] => 0
  | d :: r => uptoBulk d + uptoBulkAll r
def uptoBulkEntries {H : Type} : List (Lit × DataW H) → Nat
  | [] => 0
  | x :: r => uptoBulkEntry x + uptoBulkEntries r
def uptoBulkEntry {H : Type} : Lit × DataW H → Nat
  | (.string bytes, d) => bytes.length + uptoBulk d + 1
  | (_, d) => uptoBulk d + 1
 end
def uptoSmall : (H : Type) → List (DataW H) → Bool := fun _ ds => decide (uptoBulkAll ds ≤ 1048576)
def OpenSpec.upto (s : _root_.Go.ChangeSpec) : _root_.Go.OpenSpec := { _root_.Go.OpenSpec.ofChange s with cond := some uptoSmall }

/-- 'laws.FnTraceDoes', WHERE WHAT IT READS IS OF BULK AT MOST 1048576: true; the input reads as it did. -/
def fnTraceDoesUptoRow : OpenClaim := { program := "ytffkhhblppfbfaagreat", sum := "b90797cd763d0dfa06f055241bb99e90bf66293f917ff21960de64c048e9648a", func := "loop.example/mobilenames/laws.FnTraceDoes", spec := "fnTraceDoes", unfollowed := true, recurses := true, apart := false, narrowed := true }
def FnTraceDoesUptoSaid : Prop := fnTraceDoesUptoRow.holds Tryz.pinned (OpenSpec.upto fnTraceDoesSpec)

/-- 'laws.FnFailDoes', WHERE WHAT IT READS IS OF BULK AT MOST 1048576: true; the input reads as it did. -/
def fnFailDoesUptoRow : OpenClaim := { program := "ytffkhhblppfbfaagreat", sum := "b90797cd763d0dfa06f055241bb99e90bf66293f917ff21960de64c048e9648a", func := "loop.example/mobilenames/laws.FnFailDoes", spec := "fnFailDoes", unfollowed := true, recurses := true, apart := false, narrowed := true }
def FnFailDoesUptoSaid : Prop := fnFailDoesUptoRow.holds Tryz.pinned (OpenSpec.upto fnFailDoesSpec)

end Rows
end Go.Proofs.YtffkhhblppfbfaaGreat
