/-
  NARROWER THAN 'FOR EVERY INPUT', by the rows' own cells (each row's printed sentence says how): FnExactFormOk: loops · FnExactFormDepth: loops · FnExactFormText: loops.
  DERIVED. THE GIVEN ROWS OF THIS SEAT. 12 by the template 'for every input the law returns true; each argument reads behind the call as it read before'; 0 by the template 'total and deterministic' (their statements: YthkonljgjjlloaaTotals.lean).
  GIVEN WITH THE SEED: the statements are not yours to turn. If you find one false, say at which input.
  Laid BY PROGRAM, IN A SANDBOX (cutbox-rows.mjs): the forced cells as the released guide's own fill.sh prints them over the translation 5c01a3de6d188ba8… (all of the seat's roots in one cut). By AI agents, Wed Nov 11 2026. No macro, syntax, notation, axiom, sorry.
-/
import Derived.Test.YthkonljgjjlloaaChecked
import GoSem.Claim
import GoSem.ClaimJoined
import GoSem.ClaimMapViews
import Derived.JoinedTies
import Derived.KernelRfl
namespace Go.Proofs.Ythkonljgjjlloaa
/- THE CELL 'sum', in the pinned program and in every row, IS THE sha256 OF THE DUMP (.gsa) THAT YthkonljgjjlloaaProg.lean LOADS. Nothing in Lean hashes anything: it is a label: what it is worth is what the hold of that sum in a sandbox is worth. -/
noncomputable def Try.pinned : Pinned := { name := "ythkonljgjjlloaa", sum := "5c01a3de6d188ba8da8a394fa8ad07b22669bf777cbebdc6dfe95c6f2a5d75c4", checked := Try.checked }
namespace Rows
def none {H : Type} : Left H := { results := [], args := [] }

/-- 'laws.FnExactMenuOk': WHATEVER THE INPUT: true; the input reads as it did. -/
def fnExactMenuOkSpec : ChangeSpec := { name := "fnExactMenuOk", fn := fun _ => fun
  | [d] => { results := [.lit (.bool true)], args := [d] }
  | _ => none }
def fnExactMenuOkRow : OpenClaim := { program := "ythkonljgjjlloaa", sum := "5c01a3de6d188ba8da8a394fa8ad07b22669bf777cbebdc6dfe95c6f2a5d75c4", func := "loop.example/mobilenames/laws.FnExactMenuOk", spec := "fnExactMenuOk", apart := false }
def FnExactMenuOkSaid : Prop := fnExactMenuOkRow.holds Try.pinned (OpenSpec.ofChange fnExactMenuOkSpec)

/-- ITS FALSE NEIGHBOUR: 'it returns false'. Refute it at one input. -/
def fnExactMenuOkWrong : ChangeSpec := { name := "fnExactMenuOk", fn := fun _ => fun
  | [d] => { results := [.lit (.bool false)], args := [d] }
  | _ => none }
def FnExactMenuOkWrongFalsely : Prop := fnExactMenuOkRow.holds Try.pinned (OpenSpec.ofChange fnExactMenuOkWrong)

/-- 'laws.FnMenuOk': WHATEVER THE INPUT: true; the input reads as it did. -/
def fnMenuOkSpec : ChangeSpec := { name := "fnMenuOk", fn := fun _ => fun
  | [d] => { results := [.lit (.bool true)], args := [d] }
  | _ => none }
def fnMenuOkRow : OpenClaim := { program := "ythkonljgjjlloaa", sum := "5c01a3de6d188ba8da8a394fa8ad07b22669bf777cbebdc6dfe95c6f2a5d75c4", func := "loop.example/mobilenames/laws.FnMenuOk", spec := "fnMenuOk", apart := false }
def FnMenuOkSaid : Prop := fnMenuOkRow.holds Try.pinned (OpenSpec.ofChange fnMenuOkSpec)

/-- ITS FALSE NEIGHBOUR: 'it returns false'. Refute it at one input. -/
def fnMenuOkWrong : ChangeSpec := { name := "fnMenuOk", fn := fun _ => fun
  | [d] => { results := [.lit (.bool false)], args := [d] }
  | _ => none }
def FnMenuOkWrongFalsely : Prop := fnMenuOkRow.holds Try.pinned (OpenSpec.ofChange fnMenuOkWrong)

/-- 'laws.FnExactWordOk': WHATEVER THE INPUT: true; the input reads as it did. -/
def fnExactWordOkSpec : ChangeSpec := { name := "fnExactWordOk", fn := fun _ => fun
  | [d] => { results := [.lit (.bool true)], args := [d] }
  | _ => none }
def fnExactWordOkRow : OpenClaim := { program := "ythkonljgjjlloaa", sum := "5c01a3de6d188ba8da8a394fa8ad07b22669bf777cbebdc6dfe95c6f2a5d75c4", func := "loop.example/mobilenames/laws.FnExactWordOk", spec := "fnExactWordOk", unfollowed := true, recurses := true, apart := false }
def FnExactWordOkSaid : Prop := fnExactWordOkRow.holds Try.pinned (OpenSpec.ofChange fnExactWordOkSpec)

/-- ITS FALSE NEIGHBOUR: 'it returns false'. Refute it at one input. -/
def fnExactWordOkWrong : ChangeSpec := { name := "fnExactWordOk", fn := fun _ => fun
  | [d] => { results := [.lit (.bool false)], args := [d] }
  | _ => none }
def FnExactWordOkWrongFalsely : Prop := fnExactWordOkRow.holds Try.pinned (OpenSpec.ofChange fnExactWordOkWrong)

/-- 'laws.FnExactFormOk': WHATEVER THE INPUT: true; the input reads as it did. -/
def fnExactFormOkSpec : ChangeSpec := { name := "fnExactFormOk", fn := fun _ => fun
  | [d] => { results := [.lit (.bool true)], args := [d] }
  | _ => none }
def fnExactFormOkRow : OpenClaim := { program := "ythkonljgjjlloaa", sum := "5c01a3de6d188ba8da8a394fa8ad07b22669bf777cbebdc6dfe95c6f2a5d75c4", func := "loop.example/mobilenames/laws.FnExactFormOk", spec := "fnExactFormOk", recurses := true, loops := true, apart := false }
def FnExactFormOkSaid : Prop := fnExactFormOkRow.holds Try.pinned (OpenSpec.ofChange fnExactFormOkSpec)

/-- ITS FALSE NEIGHBOUR: 'it returns false'. Refute it at one input. -/
def fnExactFormOkWrong : ChangeSpec := { name := "fnExactFormOk", fn := fun _ => fun
  | [d] => { results := [.lit (.bool false)], args := [d] }
  | _ => none }
def FnExactFormOkWrongFalsely : Prop := fnExactFormOkRow.holds Try.pinned (OpenSpec.ofChange fnExactFormOkWrong)

/-- 'laws.FnFormDepth': WHATEVER THE INPUT: true; the input reads as it did. -/
def fnFormDepthSpec : ChangeSpec := { name := "fnFormDepth", fn := fun _ => fun
  | [d] => { results := [.lit (.bool true)], args := [d] }
  | _ => none }
def fnFormDepthRow : OpenClaim := { program := "ythkonljgjjlloaa", sum := "5c01a3de6d188ba8da8a394fa8ad07b22669bf777cbebdc6dfe95c6f2a5d75c4", func := "loop.example/mobilenames/laws.FnFormDepth", spec := "fnFormDepth", recurses := true, apart := false }
def FnFormDepthSaid : Prop := fnFormDepthRow.holds Try.pinned (OpenSpec.ofChange fnFormDepthSpec)

/-- ITS FALSE NEIGHBOUR: 'it returns false'. Refute it at one input. -/
def fnFormDepthWrong : ChangeSpec := { name := "fnFormDepth", fn := fun _ => fun
  | [d] => { results := [.lit (.bool false)], args := [d] }
  | _ => none }
def FnFormDepthWrongFalsely : Prop := fnFormDepthRow.holds Try.pinned (OpenSpec.ofChange fnFormDepthWrong)

/-- 'laws.FnExactFormDepth': WHATEVER THE INPUT: true; the input reads as it did. -/
def fnExactFormDepthSpec : ChangeSpec := { name := "fnExactFormDepth", fn := fun _ => fun
  | [d] => { results := [.lit (.bool true)], args := [d] }
  | _ => none }
def fnExactFormDepthRow : OpenClaim := { program := "ythkonljgjjlloaa", sum := "5c01a3de6d188ba8da8a394fa8ad07b22669bf777cbebdc6dfe95c6f2a5d75c4", func := "loop.example/mobilenames/laws.FnExactFormDepth", spec := "fnExactFormDepth", recurses := true, loops := true, apart := false }
def FnExactFormDepthSaid : Prop := fnExactFormDepthRow.holds Try.pinned (OpenSpec.ofChange fnExactFormDepthSpec)

/-- ITS FALSE NEIGHBOUR: 'it returns false'. Refute it at one input. -/
def fnExactFormDepthWrong : ChangeSpec := { name := "fnExactFormDepth", fn := fun _ => fun
  | [d] => { results := [.lit (.bool false)], args := [d] }
  | _ => none }
def FnExactFormDepthWrongFalsely : Prop := fnExactFormDepthRow.holds Try.pinned (OpenSpec.ofChange fnExactFormDepthWrong)

/-- 'laws.FnFormOk': WHATEVER THE INPUT: true; the input reads as it did. -/
def fnFormOkSpec : ChangeSpec := { name := "fnFormOk", fn := fun _ => fun
  | [d] => { results := [.lit (.bool true)], args := [d] }
  | _ => none }
def fnFormOkRow : OpenClaim := { program := "ythkonljgjjlloaa", sum := "5c01a3de6d188ba8da8a394fa8ad07b22669bf777cbebdc6dfe95c6f2a5d75c4", func := "loop.example/mobilenames/laws.FnFormOk", spec := "fnFormOk", recurses := true, apart := false }
def FnFormOkSaid : Prop := fnFormOkRow.holds Try.pinned (OpenSpec.ofChange fnFormOkSpec)

/-- ITS FALSE NEIGHBOUR: 'it returns false'. Refute it at one input. -/
def fnFormOkWrong : ChangeSpec := { name := "fnFormOk", fn := fun _ => fun
  | [d] => { results := [.lit (.bool false)], args := [d] }
  | _ => none }
def FnFormOkWrongFalsely : Prop := fnFormOkRow.holds Try.pinned (OpenSpec.ofChange fnFormOkWrong)

/-- 'laws.FnFormText': WHATEVER THE INPUT: true; the input reads as it did. -/
def fnFormTextSpec : ChangeSpec := { name := "fnFormText", fn := fun _ => fun
  | [d] => { results := [.lit (.bool true)], args := [d] }
  | _ => none }
def fnFormTextRow : OpenClaim := { program := "ythkonljgjjlloaa", sum := "5c01a3de6d188ba8da8a394fa8ad07b22669bf777cbebdc6dfe95c6f2a5d75c4", func := "loop.example/mobilenames/laws.FnFormText", spec := "fnFormText", recurses := true, apart := false }
def FnFormTextSaid : Prop := fnFormTextRow.holds Try.pinned (OpenSpec.ofChange fnFormTextSpec)

/-- ITS FALSE NEIGHBOUR: 'it returns false'. Refute it at one input. -/
def fnFormTextWrong : ChangeSpec := { name := "fnFormText", fn := fun _ => fun
  | [d] => { results := [.lit (.bool false)], args := [d] }
  | _ => none }
def FnFormTextWrongFalsely : Prop := fnFormTextRow.holds Try.pinned (OpenSpec.ofChange fnFormTextWrong)

/-- 'laws.FnExactFormText': WHATEVER THE INPUT: true; the input reads as it did. -/
def fnExactFormTextSpec : ChangeSpec := { name := "fnExactFormText", fn := fun _ => fun
  | [d] => { results := [.lit (.bool true)], args := [d] }
  | _ => none }
def fnExactFormTextRow : OpenClaim := { program := "ythkonljgjjlloaa", sum := "5c01a3de6d188ba8da8a394fa8ad07b22669bf777cbebdc6dfe95c6f2a5d75c4", func := "loop.example/mobilenames/laws.FnExactFormText", spec := "fnExactFormText", recurses := true, loops := true, apart := false }
def FnExactFormTextSaid : Prop := fnExactFormTextRow.holds Try.pinned (OpenSpec.ofChange fnExactFormTextSpec)

/-- ITS FALSE NEIGHBOUR: 'it returns false'. Refute it at one input. -/
def fnExactFormTextWrong : ChangeSpec := { name := "fnExactFormText", fn := fun _ => fun
  | [d] => { results := [.lit (.bool false)], args := [d] }
  | _ => none }
def FnExactFormTextWrongFalsely : Prop := fnExactFormTextRow.holds Try.pinned (OpenSpec.ofChange fnExactFormTextWrong)

/-- 'laws.FnExactStateRefuses': WHATEVER THE INPUT: true; the input reads as it did. -/
def fnExactStateRefusesSpec : ChangeSpec := { name := "fnExactStateRefuses", fn := fun _ => fun
  | [d1, d2, d3] => { results := [.lit (.bool true)], args := [d1, d2, d3] }
  | _ => none }
def fnExactStateRefusesRow : OpenClaim := { program := "ythkonljgjjlloaa", sum := "5c01a3de6d188ba8da8a394fa8ad07b22669bf777cbebdc6dfe95c6f2a5d75c4", func := "loop.example/mobilenames/laws.FnExactStateRefuses", spec := "fnExactStateRefuses", unfollowed := true, recurses := true, apart := false }
def FnExactStateRefusesSaid : Prop := fnExactStateRefusesRow.holds Try.pinned (OpenSpec.ofChange fnExactStateRefusesSpec)

/-- ITS FALSE NEIGHBOUR: 'it returns false'. Refute it at one input. -/
def fnExactStateRefusesWrong : ChangeSpec := { name := "fnExactStateRefuses", fn := fun _ => fun
  | [d1, d2, d3] => { results := [.lit (.bool false)], args := [d1, d2, d3] }
  | _ => none }
def FnExactStateRefusesWrongFalsely : Prop := fnExactStateRefusesRow.holds Try.pinned (OpenSpec.ofChange fnExactStateRefusesWrong)

/-- 'laws.FnWordOk': WHATEVER THE INPUT: true; the input reads as it did. -/
def fnWordOkSpec : ChangeSpec := { name := "fnWordOk", fn := fun _ => fun
  | [d] => { results := [.lit (.bool true)], args := [d] }
  | _ => none }
def fnWordOkRow : OpenClaim := { program := "ythkonljgjjlloaa", sum := "5c01a3de6d188ba8da8a394fa8ad07b22669bf777cbebdc6dfe95c6f2a5d75c4", func := "loop.example/mobilenames/laws.FnWordOk", spec := "fnWordOk", unfollowed := true, recurses := true, apart := false }
def FnWordOkSaid : Prop := fnWordOkRow.holds Try.pinned (OpenSpec.ofChange fnWordOkSpec)

/-- ITS FALSE NEIGHBOUR: 'it returns false'. Refute it at one input. -/
def fnWordOkWrong : ChangeSpec := { name := "fnWordOk", fn := fun _ => fun
  | [d] => { results := [.lit (.bool false)], args := [d] }
  | _ => none }
def FnWordOkWrongFalsely : Prop := fnWordOkRow.holds Try.pinned (OpenSpec.ofChange fnWordOkWrong)

/-- 'laws.FnStateRefuses': WHATEVER THE INPUT: true; the input reads as it did. -/
def fnStateRefusesSpec : ChangeSpec := { name := "fnStateRefuses", fn := fun _ => fun
  | [d] => { results := [.lit (.bool true)], args := [d] }
  | _ => none }
def fnStateRefusesRow : OpenClaim := { program := "ythkonljgjjlloaa", sum := "5c01a3de6d188ba8da8a394fa8ad07b22669bf777cbebdc6dfe95c6f2a5d75c4", func := "loop.example/mobilenames/laws.FnStateRefuses", spec := "fnStateRefuses", unfollowed := true, recurses := true, apart := false }
def FnStateRefusesSaid : Prop := fnStateRefusesRow.holds Try.pinned (OpenSpec.ofChange fnStateRefusesSpec)

/-- ITS FALSE NEIGHBOUR: 'it returns false'. Refute it at one input. -/
def fnStateRefusesWrong : ChangeSpec := { name := "fnStateRefuses", fn := fun _ => fun
  | [d] => { results := [.lit (.bool false)], args := [d] }
  | _ => none }
def FnStateRefusesWrongFalsely : Prop := fnStateRefusesRow.holds Try.pinned (OpenSpec.ofChange fnStateRefusesWrong)

/- THE SECOND FORM. 'bulk': how many values and letters a reading holds, each counted each time it is reached (what is shared counts as often as it is met; a slice's spare places count too). A statement '..UptoSaid' is the law's where the arguments, and the package variables that the reading takes, are together of bulk at most 1048576: NARROWER than '..Said'. Prove '..Said' where nothing that the law and all that it calls make is longer than what came in: it says more and counts as full. Else prove '..UptoSaid'. A law counts once. -/
mutual
def uptoBulk {H : Type} : DataW H → Nat
  | .lit (.string bytes) => bytes.length + 1
  | .lit _ => 1
  | .nil => 1
  | .ptr d => uptoBulk d + 1
  | .slice elems spare => uptoBulkAll elems + uptoBulkAll spare + 1
  | .agg parts => uptoBulkAll parts + 1
  | .iface _ d => uptoBulk d + 1
  | .map entries => uptoBulkEntries entries + 1
  | .held _ => 1
def uptoBulkAll {H : Type} : List (DataW H) → Nat
  | [] => 0
  | d :: r => uptoBulk d + uptoBulkAll r
def uptoBulkEntries {H : Type} : List (Lit × DataW H) → Nat
  | [] => 0
  | x :: r => uptoBulkEntry x + uptoBulkEntries r
def uptoBulkEntry {H : Type} : Lit × DataW H → Nat
  | (.string bytes, d) => bytes.length + uptoBulk d + 1
  | (_, d) => uptoBulk d + 1
 end
def uptoSmall : (H : Type) → List (DataW H) → Bool := fun _ ds => decide (uptoBulkAll ds ≤ 1048576)
def OpenSpec.upto (s : _root_.Go.ChangeSpec) : _root_.Go.OpenSpec := { _root_.Go.OpenSpec.ofChange s with cond := some uptoSmall }

/-- 'laws.FnExactMenuOk', WHERE WHAT IT READS IS OF BULK AT MOST 1048576: true; the input reads as it did. -/
def fnExactMenuOkUptoRow : OpenClaim := { program := "ythkonljgjjlloaa", sum := "5c01a3de6d188ba8da8a394fa8ad07b22669bf777cbebdc6dfe95c6f2a5d75c4", func := "loop.example/mobilenames/laws.FnExactMenuOk", spec := "fnExactMenuOk", apart := false, narrowed := true }
def FnExactMenuOkUptoSaid : Prop := fnExactMenuOkUptoRow.holds Try.pinned (OpenSpec.upto fnExactMenuOkSpec)

/-- 'laws.FnMenuOk', WHERE WHAT IT READS IS OF BULK AT MOST 1048576: true; the input reads as it did. -/
def fnMenuOkUptoRow : OpenClaim := { program := "ythkonljgjjlloaa", sum := "5c01a3de6d188ba8da8a394fa8ad07b22669bf777cbebdc6dfe95c6f2a5d75c4", func := "loop.example/mobilenames/laws.FnMenuOk", spec := "fnMenuOk", apart := false, narrowed := true }
def FnMenuOkUptoSaid : Prop := fnMenuOkUptoRow.holds Try.pinned (OpenSpec.upto fnMenuOkSpec)

/-- 'laws.FnExactWordOk', WHERE WHAT IT READS IS OF BULK AT MOST 1048576: true; the input reads as it did. -/
def fnExactWordOkUptoRow : OpenClaim := { program := "ythkonljgjjlloaa", sum := "5c01a3de6d188ba8da8a394fa8ad07b22669bf777cbebdc6dfe95c6f2a5d75c4", func := "loop.example/mobilenames/laws.FnExactWordOk", spec := "fnExactWordOk", unfollowed := true, recurses := true, apart := false, narrowed := true }
def FnExactWordOkUptoSaid : Prop := fnExactWordOkUptoRow.holds Try.pinned (OpenSpec.upto fnExactWordOkSpec)

/-- 'laws.FnExactFormOk', WHERE WHAT IT READS IS OF BULK AT MOST 1048576: true; the input reads as it did. -/
def fnExactFormOkUptoRow : OpenClaim := { program := "ythkonljgjjlloaa", sum := "5c01a3de6d188ba8da8a394fa8ad07b22669bf777cbebdc6dfe95c6f2a5d75c4", func := "loop.example/mobilenames/laws.FnExactFormOk", spec := "fnExactFormOk", recurses := true, loops := true, apart := false, narrowed := true }
def FnExactFormOkUptoSaid : Prop := fnExactFormOkUptoRow.holds Try.pinned (OpenSpec.upto fnExactFormOkSpec)

/-- 'laws.FnFormDepth', WHERE WHAT IT READS IS OF BULK AT MOST 1048576: true; the input reads as it did. -/
def fnFormDepthUptoRow : OpenClaim := { program := "ythkonljgjjlloaa", sum := "5c01a3de6d188ba8da8a394fa8ad07b22669bf777cbebdc6dfe95c6f2a5d75c4", func := "loop.example/mobilenames/laws.FnFormDepth", spec := "fnFormDepth", recurses := true, apart := false, narrowed := true }
def FnFormDepthUptoSaid : Prop := fnFormDepthUptoRow.holds Try.pinned (OpenSpec.upto fnFormDepthSpec)

/-- 'laws.FnExactFormDepth', WHERE WHAT IT READS IS OF BULK AT MOST 1048576: true; the input reads as it did. -/
def fnExactFormDepthUptoRow : OpenClaim := { program := "ythkonljgjjlloaa", sum := "5c01a3de6d188ba8da8a394fa8ad07b22669bf777cbebdc6dfe95c6f2a5d75c4", func := "loop.example/mobilenames/laws.FnExactFormDepth", spec := "fnExactFormDepth", recurses := true, loops := true, apart := false, narrowed := true }
def FnExactFormDepthUptoSaid : Prop := fnExactFormDepthUptoRow.holds Try.pinned (OpenSpec.upto fnExactFormDepthSpec)

/-- 'laws.FnFormOk', WHERE WHAT IT READS IS OF BULK AT MOST 1048576: true; the input reads as it did. -/
def fnFormOkUptoRow : OpenClaim := { program := "ythkonljgjjlloaa", sum := "5c01a3de6d188ba8da8a394fa8ad07b22669bf777cbebdc6dfe95c6f2a5d75c4", func := "loop.example/mobilenames/laws.FnFormOk", spec := "fnFormOk", recurses := true, apart := false, narrowed := true }
def FnFormOkUptoSaid : Prop := fnFormOkUptoRow.holds Try.pinned (OpenSpec.upto fnFormOkSpec)

/-- 'laws.FnFormText', WHERE WHAT IT READS IS OF BULK AT MOST 1048576: true; the input reads as it did. -/
def fnFormTextUptoRow : OpenClaim := { program := "ythkonljgjjlloaa", sum := "5c01a3de6d188ba8da8a394fa8ad07b22669bf777cbebdc6dfe95c6f2a5d75c4", func := "loop.example/mobilenames/laws.FnFormText", spec := "fnFormText", recurses := true, apart := false, narrowed := true }
def FnFormTextUptoSaid : Prop := fnFormTextUptoRow.holds Try.pinned (OpenSpec.upto fnFormTextSpec)

/-- 'laws.FnExactFormText', WHERE WHAT IT READS IS OF BULK AT MOST 1048576: true; the input reads as it did. -/
def fnExactFormTextUptoRow : OpenClaim := { program := "ythkonljgjjlloaa", sum := "5c01a3de6d188ba8da8a394fa8ad07b22669bf777cbebdc6dfe95c6f2a5d75c4", func := "loop.example/mobilenames/laws.FnExactFormText", spec := "fnExactFormText", recurses := true, loops := true, apart := false, narrowed := true }
def FnExactFormTextUptoSaid : Prop := fnExactFormTextUptoRow.holds Try.pinned (OpenSpec.upto fnExactFormTextSpec)

/-- 'laws.FnExactStateRefuses', WHERE WHAT IT READS IS OF BULK AT MOST 1048576: true; the input reads as it did. -/
def fnExactStateRefusesUptoRow : OpenClaim := { program := "ythkonljgjjlloaa", sum := "5c01a3de6d188ba8da8a394fa8ad07b22669bf777cbebdc6dfe95c6f2a5d75c4", func := "loop.example/mobilenames/laws.FnExactStateRefuses", spec := "fnExactStateRefuses", unfollowed := true, recurses := true, apart := false, narrowed := true }
def FnExactStateRefusesUptoSaid : Prop := fnExactStateRefusesUptoRow.holds Try.pinned (OpenSpec.upto fnExactStateRefusesSpec)

/-- 'laws.FnWordOk', WHERE WHAT IT READS IS OF BULK AT MOST 1048576: true; the input reads as it did. -/
def fnWordOkUptoRow : OpenClaim := { program := "ythkonljgjjlloaa", sum := "5c01a3de6d188ba8da8a394fa8ad07b22669bf777cbebdc6dfe95c6f2a5d75c4", func := "loop.example/mobilenames/laws.FnWordOk", spec := "fnWordOk", unfollowed := true, recurses := true, apart := false, narrowed := true }
def FnWordOkUptoSaid : Prop := fnWordOkUptoRow.holds Try.pinned (OpenSpec.upto fnWordOkSpec)

/-- 'laws.FnStateRefuses', WHERE WHAT IT READS IS OF BULK AT MOST 1048576: true; the input reads as it did. -/
def fnStateRefusesUptoRow : OpenClaim := { program := "ythkonljgjjlloaa", sum := "5c01a3de6d188ba8da8a394fa8ad07b22669bf777cbebdc6dfe95c6f2a5d75c4", func := "loop.example/mobilenames/laws.FnStateRefuses", spec := "fnStateRefuses", unfollowed := true, recurses := true, apart := false, narrowed := true }
def FnStateRefusesUptoSaid : Prop := fnStateRefusesUptoRow.holds Try.pinned (OpenSpec.upto fnStateRefusesSpec)

end Rows
end Go.Proofs.Ythkonljgjjlloaa
