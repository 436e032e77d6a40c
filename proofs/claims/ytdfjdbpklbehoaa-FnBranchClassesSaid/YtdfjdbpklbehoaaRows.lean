/-
  NARROWER THAN 'FOR EVERY INPUT', by the rows' own cells (each row's printed sentence says how): FnExactFormWhere: loops.
  DERIVED. THE GIVEN ROWS OF THIS SEAT. 12 by the template 'for every input the law returns true; each argument reads behind the call as it read before'; 0 by the template 'total and deterministic' (their statements: YtdfjdbpklbehoaaTotals.lean).
  GIVEN WITH THE SEED: the statements are not yours to turn. If you find one false, say at which input.
  Laid BY PROGRAM, IN A SANDBOX (cutbox-rows.mjs): the forced cells as the released guide's own fill.sh prints them over the translation e4adedd3b1c39834… (all of the seat's roots in one cut). By AI agents, Wed Nov 11 2026. No macro, syntax, notation, axiom, sorry.
-/
import Derived.Test.YtdfjdbpklbehoaaChecked
import GoSem.Claim
import GoSem.ClaimJoined
import GoSem.ClaimMapViews
import Derived.JoinedTies
import Derived.KernelRfl
namespace Go.Proofs.Ytdfjdbpklbehoaa
/- THE CELL 'sum', in the pinned program and in every row, IS THE sha256 OF THE DUMP (.gsa) THAT YtdfjdbpklbehoaaProg.lean LOADS. Nothing in Lean hashes anything: it is a label: what it is worth is what the hold of that sum in a sandbox is worth. -/
noncomputable def Try.pinned : Pinned := { name := "ytdfjdbpklbehoaa", sum := "e4adedd3b1c39834ac83a24c0a8d808b21dd8cbf3482b879e34e809c9f17ccf0", checked := Try.checked }
namespace Rows
def none {H : Type} : Left H := { results := [], args := [] }

/-- 'laws.FnExactFormWhere': WHATEVER THE INPUT: true; the input reads as it did. -/
def fnExactFormWhereSpec : ChangeSpec := { name := "fnExactFormWhere", fn := fun _ => fun
  | [d1, d2] => { results := [.lit (.bool true)], args := [d1, d2] }
  | _ => none }
def fnExactFormWhereRow : OpenClaim := { program := "ytdfjdbpklbehoaa", sum := "e4adedd3b1c39834ac83a24c0a8d808b21dd8cbf3482b879e34e809c9f17ccf0", func := "loop.example/mobilenames/laws.FnExactFormWhere", spec := "fnExactFormWhere", recurses := true, loops := true, apart := false }
def FnExactFormWhereSaid : Prop := fnExactFormWhereRow.holds Try.pinned (OpenSpec.ofChange fnExactFormWhereSpec)

/-- ITS FALSE NEIGHBOUR: 'it returns false'. Refute it at one input. -/
def fnExactFormWhereWrong : ChangeSpec := { name := "fnExactFormWhere", fn := fun _ => fun
  | [d1, d2] => { results := [.lit (.bool false)], args := [d1, d2] }
  | _ => none }
def FnExactFormWhereWrongFalsely : Prop := fnExactFormWhereRow.holds Try.pinned (OpenSpec.ofChange fnExactFormWhereWrong)

/-- 'laws.FnGraphLoops': WHATEVER THE INPUT: true; the input reads as it did. -/
def fnGraphLoopsSpec : ChangeSpec := { name := "fnGraphLoops", fn := fun _ => fun
  | [d] => { results := [.lit (.bool true)], args := [d] }
  | _ => none }
def fnGraphLoopsRow : OpenClaim := { program := "ytdfjdbpklbehoaa", sum := "e4adedd3b1c39834ac83a24c0a8d808b21dd8cbf3482b879e34e809c9f17ccf0", func := "loop.example/mobilenames/laws.FnGraphLoops", spec := "fnGraphLoops", unfollowed := true, recurses := true, apart := false }
def FnGraphLoopsSaid : Prop := fnGraphLoopsRow.holds Try.pinned (OpenSpec.ofChange fnGraphLoopsSpec)

/-- ITS FALSE NEIGHBOUR: 'it returns false'. Refute it at one input. -/
def fnGraphLoopsWrong : ChangeSpec := { name := "fnGraphLoops", fn := fun _ => fun
  | [d] => { results := [.lit (.bool false)], args := [d] }
  | _ => none }
def FnGraphLoopsWrongFalsely : Prop := fnGraphLoopsRow.holds Try.pinned (OpenSpec.ofChange fnGraphLoopsWrong)

/-- 'laws.FnExactTraceDoes': WHATEVER THE INPUT: true; the input reads as it did. -/
def fnExactTraceDoesSpec : ChangeSpec := { name := "fnExactTraceDoes", fn := fun _ => fun
  | [d1, d2] => { results := [.lit (.bool true)], args := [d1, d2] }
  | _ => none }
def fnExactTraceDoesRow : OpenClaim := { program := "ytdfjdbpklbehoaa", sum := "e4adedd3b1c39834ac83a24c0a8d808b21dd8cbf3482b879e34e809c9f17ccf0", func := "loop.example/mobilenames/laws.FnExactTraceDoes", spec := "fnExactTraceDoes", unfollowed := true, recurses := true, apart := false }
def FnExactTraceDoesSaid : Prop := fnExactTraceDoesRow.holds Try.pinned (OpenSpec.ofChange fnExactTraceDoesSpec)

/-- ITS FALSE NEIGHBOUR: 'it returns false'. Refute it at one input. -/
def fnExactTraceDoesWrong : ChangeSpec := { name := "fnExactTraceDoes", fn := fun _ => fun
  | [d1, d2] => { results := [.lit (.bool false)], args := [d1, d2] }
  | _ => none }
def FnExactTraceDoesWrongFalsely : Prop := fnExactTraceDoesRow.holds Try.pinned (OpenSpec.ofChange fnExactTraceDoesWrong)

/-- 'laws.FnExactTraceBehind': WHATEVER THE INPUT: true; the input reads as it did. -/
def fnExactTraceBehindSpec : ChangeSpec := { name := "fnExactTraceBehind", fn := fun _ => fun
  | [d1, d2] => { results := [.lit (.bool true)], args := [d1, d2] }
  | _ => none }
def fnExactTraceBehindRow : OpenClaim := { program := "ytdfjdbpklbehoaa", sum := "e4adedd3b1c39834ac83a24c0a8d808b21dd8cbf3482b879e34e809c9f17ccf0", func := "loop.example/mobilenames/laws.FnExactTraceBehind", spec := "fnExactTraceBehind", unfollowed := true, recurses := true, apart := false }
def FnExactTraceBehindSaid : Prop := fnExactTraceBehindRow.holds Try.pinned (OpenSpec.ofChange fnExactTraceBehindSpec)

/-- ITS FALSE NEIGHBOUR: 'it returns false'. Refute it at one input. -/
def fnExactTraceBehindWrong : ChangeSpec := { name := "fnExactTraceBehind", fn := fun _ => fun
  | [d1, d2] => { results := [.lit (.bool false)], args := [d1, d2] }
  | _ => none }
def FnExactTraceBehindWrongFalsely : Prop := fnExactTraceBehindRow.holds Try.pinned (OpenSpec.ofChange fnExactTraceBehindWrong)

/-- 'laws.FnExactBranchClasses': WHATEVER THE INPUT: true; the input reads as it did. -/
def fnExactBranchClassesSpec : ChangeSpec := { name := "fnExactBranchClasses", fn := fun _ => fun
  | [d] => { results := [.lit (.bool true)], args := [d] }
  | _ => none }
def fnExactBranchClassesRow : OpenClaim := { program := "ytdfjdbpklbehoaa", sum := "e4adedd3b1c39834ac83a24c0a8d808b21dd8cbf3482b879e34e809c9f17ccf0", func := "loop.example/mobilenames/laws.FnExactBranchClasses", spec := "fnExactBranchClasses", unfollowed := true, recurses := true, apart := false }
def FnExactBranchClassesSaid : Prop := fnExactBranchClassesRow.holds Try.pinned (OpenSpec.ofChange fnExactBranchClassesSpec)

/-- ITS FALSE NEIGHBOUR: 'it returns false'. Refute it at one input. -/
def fnExactBranchClassesWrong : ChangeSpec := { name := "fnExactBranchClasses", fn := fun _ => fun
  | [d] => { results := [.lit (.bool false)], args := [d] }
  | _ => none }
def FnExactBranchClassesWrongFalsely : Prop := fnExactBranchClassesRow.holds Try.pinned (OpenSpec.ofChange fnExactBranchClassesWrong)

/-- 'laws.FnTraceBehind': WHATEVER THE INPUT: true; the input reads as it did. -/
def fnTraceBehindSpec : ChangeSpec := { name := "fnTraceBehind", fn := fun _ => fun
  | [d] => { results := [.lit (.bool true)], args := [d] }
  | _ => none }
def fnTraceBehindRow : OpenClaim := { program := "ytdfjdbpklbehoaa", sum := "e4adedd3b1c39834ac83a24c0a8d808b21dd8cbf3482b879e34e809c9f17ccf0", func := "loop.example/mobilenames/laws.FnTraceBehind", spec := "fnTraceBehind", unfollowed := true, recurses := true, apart := false }
def FnTraceBehindSaid : Prop := fnTraceBehindRow.holds Try.pinned (OpenSpec.ofChange fnTraceBehindSpec)

/-- ITS FALSE NEIGHBOUR: 'it returns false'. Refute it at one input. -/
def fnTraceBehindWrong : ChangeSpec := { name := "fnTraceBehind", fn := fun _ => fun
  | [d] => { results := [.lit (.bool false)], args := [d] }
  | _ => none }
def FnTraceBehindWrongFalsely : Prop := fnTraceBehindRow.holds Try.pinned (OpenSpec.ofChange fnTraceBehindWrong)

/-- 'laws.FnBranchClasses': WHATEVER THE INPUT: true; the input reads as it did. -/
def fnBranchClassesSpec : ChangeSpec := { name := "fnBranchClasses", fn := fun _ => fun
  | [d] => { results := [.lit (.bool true)], args := [d] }
  | _ => none }
def fnBranchClassesRow : OpenClaim := { program := "ytdfjdbpklbehoaa", sum := "e4adedd3b1c39834ac83a24c0a8d808b21dd8cbf3482b879e34e809c9f17ccf0", func := "loop.example/mobilenames/laws.FnBranchClasses", spec := "fnBranchClasses", unfollowed := true, recurses := true, apart := false }
def FnBranchClassesSaid : Prop := fnBranchClassesRow.holds Try.pinned (OpenSpec.ofChange fnBranchClassesSpec)

/-- ITS FALSE NEIGHBOUR: 'it returns false'. Refute it at one input. -/
def fnBranchClassesWrong : ChangeSpec := { name := "fnBranchClasses", fn := fun _ => fun
  | [d] => { results := [.lit (.bool false)], args := [d] }
  | _ => none }
def FnBranchClassesWrongFalsely : Prop := fnBranchClassesRow.holds Try.pinned (OpenSpec.ofChange fnBranchClassesWrong)

/-- 'laws.FnExactWeakGraph': WHATEVER THE INPUT: true; the input reads as it did. -/
def fnExactWeakGraphSpec : ChangeSpec := { name := "fnExactWeakGraph", fn := fun _ => fun
  | [d] => { results := [.lit (.bool true)], args := [d] }
  | _ => none }
def fnExactWeakGraphRow : OpenClaim := { program := "ytdfjdbpklbehoaa", sum := "e4adedd3b1c39834ac83a24c0a8d808b21dd8cbf3482b879e34e809c9f17ccf0", func := "loop.example/mobilenames/laws.FnExactWeakGraph", spec := "fnExactWeakGraph", unfollowed := true, recurses := true, apart := false }
def FnExactWeakGraphSaid : Prop := fnExactWeakGraphRow.holds Try.pinned (OpenSpec.ofChange fnExactWeakGraphSpec)

/-- ITS FALSE NEIGHBOUR: 'it returns false'. Refute it at one input. -/
def fnExactWeakGraphWrong : ChangeSpec := { name := "fnExactWeakGraph", fn := fun _ => fun
  | [d] => { results := [.lit (.bool false)], args := [d] }
  | _ => none }
def FnExactWeakGraphWrongFalsely : Prop := fnExactWeakGraphRow.holds Try.pinned (OpenSpec.ofChange fnExactWeakGraphWrong)

/-- 'laws.FnFormWhere': WHATEVER THE INPUT: true; the input reads as it did. -/
def fnFormWhereSpec : ChangeSpec := { name := "fnFormWhere", fn := fun _ => fun
  | [d] => { results := [.lit (.bool true)], args := [d] }
  | _ => none }
def fnFormWhereRow : OpenClaim := { program := "ytdfjdbpklbehoaa", sum := "e4adedd3b1c39834ac83a24c0a8d808b21dd8cbf3482b879e34e809c9f17ccf0", func := "loop.example/mobilenames/laws.FnFormWhere", spec := "fnFormWhere", unfollowed := true, recurses := true, apart := false }
def FnFormWhereSaid : Prop := fnFormWhereRow.holds Try.pinned (OpenSpec.ofChange fnFormWhereSpec)

/-- ITS FALSE NEIGHBOUR: 'it returns false'. Refute it at one input. -/
def fnFormWhereWrong : ChangeSpec := { name := "fnFormWhere", fn := fun _ => fun
  | [d] => { results := [.lit (.bool false)], args := [d] }
  | _ => none }
def FnFormWhereWrongFalsely : Prop := fnFormWhereRow.holds Try.pinned (OpenSpec.ofChange fnFormWhereWrong)

/-- 'laws.FnExactWeakClasses': WHATEVER THE INPUT: true; the input reads as it did. -/
def fnExactWeakClassesSpec : ChangeSpec := { name := "fnExactWeakClasses", fn := fun _ => fun
  | [d] => { results := [.lit (.bool true)], args := [d] }
  | _ => none }
def fnExactWeakClassesRow : OpenClaim := { program := "ytdfjdbpklbehoaa", sum := "e4adedd3b1c39834ac83a24c0a8d808b21dd8cbf3482b879e34e809c9f17ccf0", func := "loop.example/mobilenames/laws.FnExactWeakClasses", spec := "fnExactWeakClasses", unfollowed := true, recurses := true, apart := false }
def FnExactWeakClassesSaid : Prop := fnExactWeakClassesRow.holds Try.pinned (OpenSpec.ofChange fnExactWeakClassesSpec)

/-- ITS FALSE NEIGHBOUR: 'it returns false'. Refute it at one input. -/
def fnExactWeakClassesWrong : ChangeSpec := { name := "fnExactWeakClasses", fn := fun _ => fun
  | [d] => { results := [.lit (.bool false)], args := [d] }
  | _ => none }
def FnExactWeakClassesWrongFalsely : Prop := fnExactWeakClassesRow.holds Try.pinned (OpenSpec.ofChange fnExactWeakClassesWrong)

/-- 'laws.FnWeakGraph': WHATEVER THE INPUT: true; the input reads as it did. -/
def fnWeakGraphSpec : ChangeSpec := { name := "fnWeakGraph", fn := fun _ => fun
  | [d] => { results := [.lit (.bool true)], args := [d] }
  | _ => none }
def fnWeakGraphRow : OpenClaim := { program := "ytdfjdbpklbehoaa", sum := "e4adedd3b1c39834ac83a24c0a8d808b21dd8cbf3482b879e34e809c9f17ccf0", func := "loop.example/mobilenames/laws.FnWeakGraph", spec := "fnWeakGraph", unfollowed := true, recurses := true, apart := false }
def FnWeakGraphSaid : Prop := fnWeakGraphRow.holds Try.pinned (OpenSpec.ofChange fnWeakGraphSpec)

/-- ITS FALSE NEIGHBOUR: 'it returns false'. Refute it at one input. -/
def fnWeakGraphWrong : ChangeSpec := { name := "fnWeakGraph", fn := fun _ => fun
  | [d] => { results := [.lit (.bool false)], args := [d] }
  | _ => none }
def FnWeakGraphWrongFalsely : Prop := fnWeakGraphRow.holds Try.pinned (OpenSpec.ofChange fnWeakGraphWrong)

/-- 'laws.FnWeakClasses': WHATEVER THE INPUT: true; the input reads as it did. -/
def fnWeakClassesSpec : ChangeSpec := { name := "fnWeakClasses", fn := fun _ => fun
  | [d] => { results := [.lit (.bool true)], args := [d] }
  | _ => none }
def fnWeakClassesRow : OpenClaim := { program := "ytdfjdbpklbehoaa", sum := "e4adedd3b1c39834ac83a24c0a8d808b21dd8cbf3482b879e34e809c9f17ccf0", func := "loop.example/mobilenames/laws.FnWeakClasses", spec := "fnWeakClasses", unfollowed := true, recurses := true, apart := false }
def FnWeakClassesSaid : Prop := fnWeakClassesRow.holds Try.pinned (OpenSpec.ofChange fnWeakClassesSpec)

/-- ITS FALSE NEIGHBOUR: 'it returns false'. Refute it at one input. -/
def fnWeakClassesWrong : ChangeSpec := { name := "fnWeakClasses", fn := fun _ => fun
  | [d] => { results := [.lit (.bool false)], args := [d] }
  | _ => none }
def FnWeakClassesWrongFalsely : Prop := fnWeakClassesRow.holds Try.pinned (OpenSpec.ofChange fnWeakClassesWrong)

/- THE SECOND FORM. 'bulk': how many values and letters a reading holds, each counted each time it is reached (what is shared counts as often as it is met; a slice's spare places count too). A statement '..UptoSaid' is the law's where the arguments, and the package variables that the reading takes, are together of bulk at most 1048576: NARROWER than '..Said'. Prove '..Said' where nothing that the law and all that it calls make is longer than what came in: it says more and counts as full. Else prove '..UptoSaid'. A law counts once. -/
mutual
def uptoBulk {H : Type} : DataW H → Nat
  | .lit (.string bytes) => bytes.length + 1
  | .lit _ => 1
  | .nil => 1
  | .ptr d => uptoBulk d + 1
  | .slice elems spare => uptoBulkAll elems + uptoBulkAll spare + 1
  | .agg parts => uptoBulkAll parts + 1
  | .iface _ d => uptoBulk d + 1
  | .map entries => uptoBulkEntries entries + 1
  | .held _ => 1
def uptoBulkAll {H : Type} : List (DataW H) → Nat
  | [] => 0
  | d :: r => uptoBulk d + uptoBulkAll r
def uptoBulkEntries {H : Type} : List (Lit × DataW H) → Nat
  | [] => 0
  | x :: r => uptoBulkEntry x + uptoBulkEntries r
def uptoBulkEntry {H : Type} : Lit × DataW H → Nat
  | (.string bytes, d) => bytes.length + uptoBulk d + 1
  | (_, d) => uptoBulk d + 1
 end
def uptoSmall : (H : Type) → List (DataW H) → Bool := fun _ ds => decide (uptoBulkAll ds ≤ 1048576)
def OpenSpec.upto (s : _root_.Go.ChangeSpec) : _root_.Go.OpenSpec := { _root_.Go.OpenSpec.ofChange s with cond := some uptoSmall }

/-- 'laws.FnExactFormWhere', WHERE WHAT IT READS IS OF BULK AT MOST 1048576: true; the input reads as it did. -/
def fnExactFormWhereUptoRow : OpenClaim := { program := "ytdfjdbpklbehoaa", sum := "e4adedd3b1c39834ac83a24c0a8d808b21dd8cbf3482b879e34e809c9f17ccf0", func := "loop.example/mobilenames/laws.FnExactFormWhere", spec := "fnExactFormWhere", recurses := true, loops := true, apart := false, narrowed := true }
def FnExactFormWhereUptoSaid : Prop := fnExactFormWhereUptoRow.holds Try.pinned (OpenSpec.upto fnExactFormWhereSpec)

/-- 'laws.FnGraphLoops', WHERE WHAT IT READS IS OF BULK AT MOST 1048576: true; the input reads as it did. -/
def fnGraphLoopsUptoRow : OpenClaim := { program := "ytdfjdbpklbehoaa", sum := "e4adedd3b1c39834ac83a24c0a8d808b21dd8cbf3482b879e34e809c9f17ccf0", func := "loop.example/mobilenames/laws.FnGraphLoops", spec := "fnGraphLoops", unfollowed := true, recurses := true, apart := false, narrowed := true }
def FnGraphLoopsUptoSaid : Prop := fnGraphLoopsUptoRow.holds Try.pinned (OpenSpec.upto fnGraphLoopsSpec)

/-- 'laws.FnExactTraceDoes', WHERE WHAT IT READS IS OF BULK AT MOST 1048576: true; the input reads as it did. -/
def fnExactTraceDoesUptoRow : OpenClaim := { program := "ytdfjdbpklbehoaa", sum := "e4adedd3b1c39834ac83a24c0a8d808b21dd8cbf3482b879e34e809c9f17ccf0", func := "loop.example/mobilenames/laws.FnExactTraceDoes", spec := "fnExactTraceDoes", unfollowed := true, recurses := true, apart := false, narrowed := true }
def FnExactTraceDoesUptoSaid : Prop := fnExactTraceDoesUptoRow.holds Try.pinned (OpenSpec.upto fnExactTraceDoesSpec)

/-- 'laws.FnExactTraceBehind', WHERE WHAT IT READS IS OF BULK AT MOST 1048576: true; the input reads as it did. -/
def fnExactTraceBehindUptoRow : OpenClaim := { program := "ytdfjdbpklbehoaa", sum := "e4adedd3b1c39834ac83a24c0a8d808b21dd8cbf3482b879e34e809c9f17ccf0", func := "loop.example/mobilenames/laws.FnExactTraceBehind", spec := "fnExactTraceBehind", unfollowed := true, recurses := true, apart := false, narrowed := true }
def FnExactTraceBehindUptoSaid : Prop := fnExactTraceBehindUptoRow.holds Try.pinned (OpenSpec.upto fnExactTraceBehindSpec)

/-- 'laws.FnExactBranchClasses', WHERE WHAT IT READS IS OF BULK AT MOST 1048576: true; the input reads as it did. -/
def fnExactBranchClassesUptoRow : OpenClaim := { program := "ytdfjdbpklbehoaa", sum := "e4adedd3b1c39834ac83a24c0a8d808b21dd8cbf3482b879e34e809c9f17ccf0", func := "loop.example/mobilenames/laws.FnExactBranchClasses", spec := "fnExactBranchClasses", unfollowed := true, recurses := true, apart := false, narrowed := true }
def FnExactBranchClassesUptoSaid : Prop := fnExactBranchClassesUptoRow.holds Try.pinned (OpenSpec.upto fnExactBranchClassesSpec)

/-- 'laws.FnTraceBehind', WHERE WHAT IT READS IS OF BULK AT MOST 1048576: true; the input reads as it did. -/
def fnTraceBehindUptoRow : OpenClaim := { program := "ytdfjdbpklbehoaa", sum := "e4adedd3b1c39834ac83a24c0a8d808b21dd8cbf3482b879e34e809c9f17ccf0", func := "loop.example/mobilenames/laws.FnTraceBehind", spec := "fnTraceBehind", unfollowed := true, recurses := true, apart := false, narrowed := true }
def FnTraceBehindUptoSaid : Prop := fnTraceBehindUptoRow.holds Try.pinned (OpenSpec.upto fnTraceBehindSpec)

/-- 'laws.FnBranchClasses', WHERE WHAT IT READS IS OF BULK AT MOST 1048576: true; the input reads as it did. -/
def fnBranchClassesUptoRow : OpenClaim := { program := "ytdfjdbpklbehoaa", sum := "e4adedd3b1c39834ac83a24c0a8d808b21dd8cbf3482b879e34e809c9f17ccf0", func := "loop.example/mobilenames/laws.FnBranchClasses", spec := "fnBranchClasses", unfollowed := true, recurses := true, apart := false, narrowed := true }
def FnBranchClassesUptoSaid : Prop := fnBranchClassesUptoRow.holds Try.pinned (OpenSpec.upto fnBranchClassesSpec)

/-- 'laws.FnExactWeakGraph', WHERE WHAT IT READS IS OF BULK AT MOST 1048576: true; the input reads as it did. -/
def fnExactWeakGraphUptoRow : OpenClaim := { program := "ytdfjdbpklbehoaa", sum := "e4adedd3b1c39834ac83a24c0a8d808b21dd8cbf3482b879e34e809c9f17ccf0", func := "loop.example/mobilenames/laws.FnExactWeakGraph", spec := "fnExactWeakGraph", unfollowed := true, recurses := true, apart := false, narrowed := true }
def FnExactWeakGraphUptoSaid : Prop := fnExactWeakGraphUptoRow.holds Try.pinned (OpenSpec.upto fnExactWeakGraphSpec)

/-- 'laws.FnFormWhere', WHERE WHAT IT READS IS OF BULK AT MOST 1048576: true; the input reads as it did. -/
def fnFormWhereUptoRow : OpenClaim := { program := "ytdfjdbpklbehoaa", sum := "e4adedd3b1c39834ac83a24c0a8d808b21dd8cbf3482b879e34e809c9f17ccf0", func := "loop.example/mobilenames/laws.FnFormWhere", spec := "fnFormWhere", unfollowed := true, recurses := true, apart := false, narrowed := true }
def FnFormWhereUptoSaid : Prop := fnFormWhereUptoRow.holds Try.pinned (OpenSpec.upto fnFormWhereSpec)

/-- 'laws.FnExactWeakClasses', WHERE WHAT IT READS IS OF BULK AT MOST 1048576: true; the input reads as it did. -/
def fnExactWeakClassesUptoRow : OpenClaim := { program := "ytdfjdbpklbehoaa", sum := "e4adedd3b1c39834ac83a24c0a8d808b21dd8cbf3482b879e34e809c9f17ccf0", func := "loop.example/mobilenames/laws.FnExactWeakClasses", spec := "fnExactWeakClasses", unfollowed := true, recurses := true, apart := false, narrowed := true }
def FnExactWeakClassesUptoSaid : Prop := fnExactWeakClassesUptoRow.holds Try.pinned (OpenSpec.upto fnExactWeakClassesSpec)

/-- 'laws.FnWeakGraph', WHERE WHAT IT READS IS OF BULK AT MOST 1048576: true; the input reads as it did. -/
def fnWeakGraphUptoRow : OpenClaim := { program := "ytdfjdbpklbehoaa", sum := "e4adedd3b1c39834ac83a24c0a8d808b21dd8cbf3482b879e34e809c9f17ccf0", func := "loop.example/mobilenames/laws.FnWeakGraph", spec := "fnWeakGraph", unfollowed := true, recurses := true, apart := false, narrowed := true }
def FnWeakGraphUptoSaid : Prop := fnWeakGraphUptoRow.holds Try.pinned (OpenSpec.upto fnWeakGraphSpec)

/-- 'laws.FnWeakClasses', WHERE WHAT IT READS IS OF BULK AT MOST 1048576: true; the input reads as it did. -/
def fnWeakClassesUptoRow : OpenClaim := { program := "ytdfjdbpklbehoaa", sum := "e4adedd3b1c39834ac83a24c0a8d808b21dd8cbf3482b879e34e809c9f17ccf0", func := "loop.example/mobilenames/laws.FnWeakClasses", spec := "fnWeakClasses", unfollowed := true, recurses := true, apart := false, narrowed := true }
def FnWeakClassesUptoSaid : Prop := fnWeakClassesUptoRow.holds Try.pinned (OpenSpec.upto fnWeakClassesSpec)

end Rows
end Go.Proofs.Ytdfjdbpklbehoaa
