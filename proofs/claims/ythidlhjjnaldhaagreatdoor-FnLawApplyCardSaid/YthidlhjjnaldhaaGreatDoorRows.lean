/-
  NARROWER THAN 'FOR EVERY INPUT', by the rows' own cells (each row's printed sentence says how): FnRootKept: laid · FnTermsRoot: laid · FnLawApply: laid · FnNormalOf: laid · FnExactTermsWeak: loops, laid · FnExactTermsRoot: loops, laid · FnTermsWeak: laid.
  DERIVED. THE GIVEN ROWS OF THIS SEAT. 7 by the template 'for every input the law returns true; each argument reads behind the call as it read before'; 0 by the template 'total and deterministic' (their statements: YthidlhjjnaldhaaGreatDoorTotals.lean).
  GIVEN WITH THE SEED: the statements are not yours to turn. If you find one false, say at which input.
  Laid BY PROGRAM, IN A SANDBOX (cutbox-rows.mjs): the forced cells as the released guide's own fill.sh prints them over the translation b426aba6f4d3990f… (all of the seat's roots in one cut). By AI agents, Wed Nov 11 2026. No macro, syntax, notation, axiom, sorry.
-/
import Derived.Test.YthidlhjjnaldhaaGreatDoorChecked
import GoSem.Claim
import GoSem.ClaimJoined
import GoSem.ClaimMapViews
import Derived.JoinedTies
import Derived.KernelRfl
namespace Go.Proofs.YthidlhjjnaldhaaGreatDoor
/- THE CELL 'sum', in the pinned program and in every row, IS THE sha256 OF THE DUMP (.gsa) THAT YthidlhjjnaldhaaGreatDoorProg.lean LOADS. Nothing in Lean hashes anything: it is a label: what it is worth is what the hold of that sum in a sandbox is worth. -/
noncomputable def Tryz.pinned : Pinned := { name := "ythidlhjjnaldhaagreatdoor", sum := "b426aba6f4d3990f7c09adbf128b4a4758f94a509b08524832ed122c0ac2fac6", checked := Tryz.checked }
namespace Rows
def none {H : Type} : Left H := { results := [], args := [] }

/- WHAT THE LISTED PACKAGE-LEVEL VARIABLES READ AS WHEN THE CALL BEGINS. Each datum BY PROGRAM (the guide's laid-datum.mjs) off the statement by which the dump's own 'gosem.cut.vars' lays the variable. In a bare row this is a premise. The card (YthidlhjjnaldhaaGreatDoorCards.lean) ties it to the program's text. -/
def laid_math_bits_deBruijn32tab {H : Type} : DataW H := .agg [.lit (.int .u8 0), .lit (.int .u8 1), .lit (.int .u8 28), .lit (.int .u8 2), .lit (.int .u8 29), .lit (.int .u8 14), .lit (.int .u8 24), .lit (.int .u8 3), .lit (.int .u8 30), .lit (.int .u8 22), .lit (.int .u8 20), .lit (.int .u8 15), .lit (.int .u8 25), .lit (.int .u8 17), .lit (.int .u8 4), .lit (.int .u8 8), .lit (.int .u8 31), .lit (.int .u8 27), .lit (.int .u8 13), .lit (.int .u8 23), .lit (.int .u8 21), .lit (.int .u8 19), .lit (.int .u8 16), .lit (.int .u8 7), .lit (.int .u8 26), .lit (.int .u8 12), .lit (.int .u8 18), .lit (.int .u8 6), .lit (.int .u8 11), .lit (.int .u8 5), .lit (.int .u8 10), .lit (.int .u8 9)]
def laid_math_bits_deBruijn64tab {H : Type} : DataW H := .agg [.lit (.int .u8 0), .lit (.int .u8 1), .lit (.int .u8 56), .lit (.int .u8 2), .lit (.int .u8 57), .lit (.int .u8 49), .lit (.int .u8 28), .lit (.int .u8 3), .lit (.int .u8 61), .lit (.int .u8 58), .lit (.int .u8 42), .lit (.int .u8 50), .lit (.int .u8 38), .lit (.int .u8 29), .lit (.int .u8 17), .lit (.int .u8 4), .lit (.int .u8 62), .lit (.int .u8 47), .lit (.int .u8 59), .lit (.int .u8 36), .lit (.int .u8 45), .lit (.int .u8 43), .lit (.int .u8 51), .lit (.int .u8 22), .lit (.int .u8 53), .lit (.int .u8 39), .lit (.int .u8 33), .lit (.int .u8 30), .lit (.int .u8 24), .lit (.int .u8 18), .lit (.int .u8 12), .lit (.int .u8 5), .lit (.int .u8 63), .lit (.int .u8 55), .lit (.int .u8 48), .lit (.int .u8 27), .lit (.int .u8 60), .lit (.int .u8 41), .lit (.int .u8 37), .lit (.int .u8 16), .lit (.int .u8 46), .lit (.int .u8 35), .lit (.int .u8 44), .lit (.int .u8 21), .lit (.int .u8 52), .lit (.int .u8 32), .lit (.int .u8 23), .lit (.int .u8 11), .lit (.int .u8 54), .lit (.int .u8 26), .lit (.int .u8 40), .lit (.int .u8 15), .lit (.int .u8 34), .lit (.int .u8 20), .lit (.int .u8 31), .lit (.int .u8 10), .lit (.int .u8 25), .lit (.int .u8 14), .lit (.int .u8 19), .lit (.int .u8 9), .lit (.int .u8 13), .lit (.int .u8 8), .lit (.int .u8 7), .lit (.int .u8 6)]
def laid_internal_strconv_uint64pow10 {H : Type} : DataW H := .agg [.lit (.int .u64 1), .lit (.int .u64 10), .lit (.int .u64 100), .lit (.int .u64 1000), .lit (.int .u64 10000), .lit (.int .u64 100000), .lit (.int .u64 1000000), .lit (.int .u64 10000000), .lit (.int .u64 100000000), .lit (.int .u64 1000000000), .lit (.int .u64 10000000000), .lit (.int .u64 100000000000), .lit (.int .u64 1000000000000), .lit (.int .u64 10000000000000), .lit (.int .u64 100000000000000), .lit (.int .u64 1000000000000000), .lit (.int .u64 10000000000000000), .lit (.int .u64 100000000000000000), .lit (.int .u64 1000000000000000000), .lit (.int .u64 10000000000000000000)]

/-- 'laws.FnRootKept': WHATEVER THE INPUT: true; the input reads as it did. -/
def fnRootKeptSpec : ChangeSpec := { name := "fnRootKept", fn := fun _ => fun
  | [d] => { results := [.lit (.bool true)], args := [d] }
  | _ => none }
def fnRootKeptRow : OpenClaim := { program := "ythidlhjjnaldhaagreatdoor", sum := "b426aba6f4d3990f7c09adbf128b4a4758f94a509b08524832ed122c0ac2fac6", func := "loop.example/mobilenames/laws.FnRootKept", spec := "fnRootKept", unfollowed := true, recurses := true, named := ["internal/strconv.uint64pow10", "math/bits.deBruijn32tab", "math/bits.deBruijn64tab"], apart := false, laid := [("math/bits.deBruijn32tab", laid_math_bits_deBruijn32tab), ("math/bits.deBruijn64tab", laid_math_bits_deBruijn64tab), ("internal/strconv.uint64pow10", laid_internal_strconv_uint64pow10)] }
def FnRootKeptSaid : Prop := fnRootKeptRow.holds Tryz.pinned (OpenSpec.ofChange fnRootKeptSpec)

/-- ITS FALSE NEIGHBOUR: 'it returns false'. Refute it at one input. -/
def fnRootKeptWrong : ChangeSpec := { name := "fnRootKept", fn := fun _ => fun
  | [d] => { results := [.lit (.bool false)], args := [d] }
  | _ => none }
def FnRootKeptWrongFalsely : Prop := fnRootKeptRow.holds Tryz.pinned (OpenSpec.ofChange fnRootKeptWrong)

/-- 'laws.FnTermsRoot': WHATEVER THE INPUT: true; the input reads as it did. -/
def fnTermsRootSpec : ChangeSpec := { name := "fnTermsRoot", fn := fun _ => fun
  | [d] => { results := [.lit (.bool true)], args := [d] }
  | _ => none }
def fnTermsRootRow : OpenClaim := { program := "ythidlhjjnaldhaagreatdoor", sum := "b426aba6f4d3990f7c09adbf128b4a4758f94a509b08524832ed122c0ac2fac6", func := "loop.example/mobilenames/laws.FnTermsRoot", spec := "fnTermsRoot", unfollowed := true, recurses := true, named := ["internal/strconv.uint64pow10", "math/bits.deBruijn32tab", "math/bits.deBruijn64tab"], apart := false, laid := [("math/bits.deBruijn32tab", laid_math_bits_deBruijn32tab), ("math/bits.deBruijn64tab", laid_math_bits_deBruijn64tab), ("internal/strconv.uint64pow10", laid_internal_strconv_uint64pow10)] }
def FnTermsRootSaid : Prop := fnTermsRootRow.holds Tryz.pinned (OpenSpec.ofChange fnTermsRootSpec)

/-- ITS FALSE NEIGHBOUR: 'it returns false'. Refute it at one input. -/
def fnTermsRootWrong : ChangeSpec := { name := "fnTermsRoot", fn := fun _ => fun
  | [d] => { results := [.lit (.bool false)], args := [d] }
  | _ => none }
def FnTermsRootWrongFalsely : Prop := fnTermsRootRow.holds Tryz.pinned (OpenSpec.ofChange fnTermsRootWrong)

/-- 'laws.FnLawApply': WHATEVER THE INPUT: true; the input reads as it did. -/
def fnLawApplySpec : ChangeSpec := { name := "fnLawApply", fn := fun _ => fun
  | [d] => { results := [.lit (.bool true)], args := [d] }
  | _ => none }
def fnLawApplyRow : OpenClaim := { program := "ythidlhjjnaldhaagreatdoor", sum := "b426aba6f4d3990f7c09adbf128b4a4758f94a509b08524832ed122c0ac2fac6", func := "loop.example/mobilenames/laws.FnLawApply", spec := "fnLawApply", unfollowed := true, recurses := true, named := ["internal/strconv.uint64pow10", "math/bits.deBruijn32tab", "math/bits.deBruijn64tab"], apart := false, laid := [("math/bits.deBruijn32tab", laid_math_bits_deBruijn32tab), ("math/bits.deBruijn64tab", laid_math_bits_deBruijn64tab), ("internal/strconv.uint64pow10", laid_internal_strconv_uint64pow10)] }
def FnLawApplySaid : Prop := fnLawApplyRow.holds Tryz.pinned (OpenSpec.ofChange fnLawApplySpec)

/-- ITS FALSE NEIGHBOUR: 'it returns false'. Refute it at one input. -/
def fnLawApplyWrong : ChangeSpec := { name := "fnLawApply", fn := fun _ => fun
  | [d] => { results := [.lit (.bool false)], args := [d] }
  | _ => none }
def FnLawApplyWrongFalsely : Prop := fnLawApplyRow.holds Tryz.pinned (OpenSpec.ofChange fnLawApplyWrong)

/-- 'laws.FnNormalOf': WHATEVER THE INPUT: true; the input reads as it did. -/
def fnNormalOfSpec : ChangeSpec := { name := "fnNormalOf", fn := fun _ => fun
  | [d] => { results := [.lit (.bool true)], args := [d] }
  | _ => none }
def fnNormalOfRow : OpenClaim := { program := "ythidlhjjnaldhaagreatdoor", sum := "b426aba6f4d3990f7c09adbf128b4a4758f94a509b08524832ed122c0ac2fac6", func := "loop.example/mobilenames/laws.FnNormalOf", spec := "fnNormalOf", unfollowed := true, recurses := true, named := ["internal/strconv.uint64pow10", "math/bits.deBruijn32tab", "math/bits.deBruijn64tab"], apart := false, laid := [("math/bits.deBruijn32tab", laid_math_bits_deBruijn32tab), ("math/bits.deBruijn64tab", laid_math_bits_deBruijn64tab), ("internal/strconv.uint64pow10", laid_internal_strconv_uint64pow10)] }
def FnNormalOfSaid : Prop := fnNormalOfRow.holds Tryz.pinned (OpenSpec.ofChange fnNormalOfSpec)

/-- ITS FALSE NEIGHBOUR: 'it returns false'. Refute it at one input. -/
def fnNormalOfWrong : ChangeSpec := { name := "fnNormalOf", fn := fun _ => fun
  | [d] => { results := [.lit (.bool false)], args := [d] }
  | _ => none }
def FnNormalOfWrongFalsely : Prop := fnNormalOfRow.holds Tryz.pinned (OpenSpec.ofChange fnNormalOfWrong)

/-- 'laws.FnExactTermsWeak': WHATEVER THE INPUT: true; the input reads as it did. -/
def fnExactTermsWeakSpec : ChangeSpec := { name := "fnExactTermsWeak", fn := fun _ => fun
  | [d1, d2, d3] => { results := [.lit (.bool true)], args := [d1, d2, d3] }
  | _ => none }
def fnExactTermsWeakRow : OpenClaim := { program := "ythidlhjjnaldhaagreatdoor", sum := "b426aba6f4d3990f7c09adbf128b4a4758f94a509b08524832ed122c0ac2fac6", func := "loop.example/mobilenames/laws.FnExactTermsWeak", spec := "fnExactTermsWeak", unfollowed := true, recurses := true, named := ["internal/strconv.uint64pow10", "math/bits.deBruijn32tab", "math/bits.deBruijn64tab"], loops := true, apart := false, laid := [("math/bits.deBruijn32tab", laid_math_bits_deBruijn32tab), ("math/bits.deBruijn64tab", laid_math_bits_deBruijn64tab), ("internal/strconv.uint64pow10", laid_internal_strconv_uint64pow10)] }
def FnExactTermsWeakSaid : Prop := fnExactTermsWeakRow.holds Tryz.pinned (OpenSpec.ofChange fnExactTermsWeakSpec)

/-- ITS FALSE NEIGHBOUR: 'it returns false'. Refute it at one input. -/
def fnExactTermsWeakWrong : ChangeSpec := { name := "fnExactTermsWeak", fn := fun _ => fun
  | [d1, d2, d3] => { results := [.lit (.bool false)], args := [d1, d2, d3] }
  | _ => none }
def FnExactTermsWeakWrongFalsely : Prop := fnExactTermsWeakRow.holds Tryz.pinned (OpenSpec.ofChange fnExactTermsWeakWrong)

/-- 'laws.FnExactTermsRoot': WHATEVER THE INPUT: true; the input reads as it did. -/
def fnExactTermsRootSpec : ChangeSpec := { name := "fnExactTermsRoot", fn := fun _ => fun
  | [d1, d2, d3] => { results := [.lit (.bool true)], args := [d1, d2, d3] }
  | _ => none }
def fnExactTermsRootRow : OpenClaim := { program := "ythidlhjjnaldhaagreatdoor", sum := "b426aba6f4d3990f7c09adbf128b4a4758f94a509b08524832ed122c0ac2fac6", func := "loop.example/mobilenames/laws.FnExactTermsRoot", spec := "fnExactTermsRoot", unfollowed := true, recurses := true, named := ["internal/strconv.uint64pow10", "math/bits.deBruijn32tab", "math/bits.deBruijn64tab"], loops := true, apart := false, laid := [("math/bits.deBruijn32tab", laid_math_bits_deBruijn32tab), ("math/bits.deBruijn64tab", laid_math_bits_deBruijn64tab), ("internal/strconv.uint64pow10", laid_internal_strconv_uint64pow10)] }
def FnExactTermsRootSaid : Prop := fnExactTermsRootRow.holds Tryz.pinned (OpenSpec.ofChange fnExactTermsRootSpec)

/-- ITS FALSE NEIGHBOUR: 'it returns false'. Refute it at one input. -/
def fnExactTermsRootWrong : ChangeSpec := { name := "fnExactTermsRoot", fn := fun _ => fun
  | [d1, d2, d3] => { results := [.lit (.bool false)], args := [d1, d2, d3] }
  | _ => none }
def FnExactTermsRootWrongFalsely : Prop := fnExactTermsRootRow.holds Tryz.pinned (OpenSpec.ofChange fnExactTermsRootWrong)

/-- 'laws.FnTermsWeak': WHATEVER THE INPUT: true; the input reads as it did. -/
def fnTermsWeakSpec : ChangeSpec := { name := "fnTermsWeak", fn := fun _ => fun
  | [d] => { results := [.lit (.bool true)], args := [d] }
  | _ => none }
def fnTermsWeakRow : OpenClaim := { program := "ythidlhjjnaldhaagreatdoor", sum := "b426aba6f4d3990f7c09adbf128b4a4758f94a509b08524832ed122c0ac2fac6", func := "loop.example/mobilenames/laws.FnTermsWeak", spec := "fnTermsWeak", unfollowed := true, recurses := true, named := ["internal/strconv.uint64pow10", "math/bits.deBruijn32tab", "math/bits.deBruijn64tab"], apart := false, laid := [("math/bits.deBruijn32tab", laid_math_bits_deBruijn32tab), ("math/bits.deBruijn64tab", laid_math_bits_deBruijn64tab), ("internal/strconv.uint64pow10", laid_internal_strconv_uint64pow10)] }
def FnTermsWeakSaid : Prop := fnTermsWeakRow.holds Tryz.pinned (OpenSpec.ofChange fnTermsWeakSpec)

/-- ITS FALSE NEIGHBOUR: 'it returns false'. Refute it at one input. -/
def fnTermsWeakWrong : ChangeSpec := { name := "fnTermsWeak", fn := fun _ => fun
  | [d] => { results := [.lit (.bool false)], args := [d] }
  | _ => none }
def FnTermsWeakWrongFalsely : Prop := fnTermsWeakRow.holds Tryz.pinned (OpenSpec.ofChange fnTermsWeakWrong)

/- THE SECOND FORM. 'bulk': how many values and letters a reading holds, each counted each time it is reached (what is shared counts as often as it is met; a slice's spare places count too). A statement '..UptoSaid' is the law's where the arguments, and the package variables that the reading takes, are together of bulk at most 1048576: NARROWER than '..Said'. Prove '..Said' where nothing that the law and all that it calls make is longer than what came in: it says more and counts as full. Else prove '..UptoSaid'. A law counts once. -/
mutual
def uptoBulk {H : Type} : DataW H → Nat
  | .lit (.string bytes) => bytes.length + 1
  | .lit _ => 1
  | .nil => 1
  | .ptr d => uptoBulk d + 1
  | .slice elems spare => uptoBulkAll elems + uptoBulkAll spare + 1
  | .agg parts => uptoBulkAll parts + 1
  | .iface _ d => uptoBulk d + 1
  | .map entries => uptoBulkEntries entries + 1
  | .held _ => 1
def uptoBulkAll {H : Type} : List (DataW H) → Nat
  | [] => 0
  | d :: r => uptoBulk d + uptoBulkAll r
def uptoBulkEntries {H : Type} : List (Lit × DataW H) → Nat
  | [] => 0
  | x :: r => uptoBulkEntry x + uptoBulkEntries r
def uptoBulkEntry {H : Type} : Lit × DataW H → Nat
  | (.string bytes, d) => bytes.length + uptoBulk d + 1
  | (_, d) => uptoBulk d + 1
 end
def uptoSmall : (H : Type) → List (DataW H) → Bool := fun _ ds => decide (uptoBulkAll ds ≤ 1048576)
def OpenSpec.upto (s : _root_.Go.ChangeSpec) : _root_.Go.OpenSpec := { _root_.Go.OpenSpec.ofChange s with cond := some uptoSmall }

/-- 'laws.FnRootKept', WHERE WHAT IT READS IS OF BULK AT MOST 1048576: true; the input reads as it did. -/
def fnRootKeptUptoRow : OpenClaim := { program := "ythidlhjjnaldhaagreatdoor", sum := "b426aba6f4d3990f7c09adbf128b4a4758f94a509b08524832ed122c0ac2fac6", func := "loop.example/mobilenames/laws.FnRootKept", spec := "fnRootKept", unfollowed := true, recurses := true, named := ["internal/strconv.uint64pow10", "math/bits.deBruijn32tab", "math/bits.deBruijn64tab"], apart := false, laid := [("math/bits.deBruijn32tab", laid_math_bits_deBruijn32tab), ("math/bits.deBruijn64tab", laid_math_bits_deBruijn64tab), ("internal/strconv.uint64pow10", laid_internal_strconv_uint64pow10)], narrowed := true }
def FnRootKeptUptoSaid : Prop := fnRootKeptUptoRow.holds Tryz.pinned (OpenSpec.upto fnRootKeptSpec)

/-- 'laws.FnTermsRoot', WHERE WHAT IT READS IS OF BULK AT MOST 1048576: true; the input reads as it did. -/
def fnTermsRootUptoRow : OpenClaim := { program := "ythidlhjjnaldhaagreatdoor", sum := "b426aba6f4d3990f7c09adbf128b4a4758f94a509b08524832ed122c0ac2fac6", func := "loop.example/mobilenames/laws.FnTermsRoot", spec := "fnTermsRoot", unfollowed := true, recurses := true, named := ["internal/strconv.uint64pow10", "math/bits.deBruijn32tab", "math/bits.deBruijn64tab"], apart := false, laid := [("math/bits.deBruijn32tab", laid_math_bits_deBruijn32tab), ("math/bits.deBruijn64tab", laid_math_bits_deBruijn64tab), ("internal/strconv.uint64pow10", laid_internal_strconv_uint64pow10)], narrowed := true }
def FnTermsRootUptoSaid : Prop := fnTermsRootUptoRow.holds Tryz.pinned (OpenSpec.upto fnTermsRootSpec)

/-- 'laws.FnLawApply', WHERE WHAT IT READS IS OF BULK AT MOST 1048576: true; the input reads as it did. -/
def fnLawApplyUptoRow : OpenClaim := { program := "ythidlhjjnaldhaagreatdoor", sum := "b426aba6f4d3990f7c09adbf128b4a4758f94a509b08524832ed122c0ac2fac6", func := "loop.example/mobilenames/laws.FnLawApply", spec := "fnLawApply", unfollowed := true, recurses := true, named := ["internal/strconv.uint64pow10", "math/bits.deBruijn32tab", "math/bits.deBruijn64tab"], apart := false, laid := [("math/bits.deBruijn32tab", laid_math_bits_deBruijn32tab), ("math/bits.deBruijn64tab", laid_math_bits_deBruijn64tab), ("internal/strconv.uint64pow10", laid_internal_strconv_uint64pow10)], narrowed := true }
def FnLawApplyUptoSaid : Prop := fnLawApplyUptoRow.holds Tryz.pinned (OpenSpec.upto fnLawApplySpec)

/-- 'laws.FnNormalOf', WHERE WHAT IT READS IS OF BULK AT MOST 1048576: true; the input reads as it did. -/
def fnNormalOfUptoRow : OpenClaim := { program := "ythidlhjjnaldhaagreatdoor", sum := "b426aba6f4d3990f7c09adbf128b4a4758f94a509b08524832ed122c0ac2fac6", func := "loop.example/mobilenames/laws.FnNormalOf", spec := "fnNormalOf", unfollowed := true, recurses := true, named := ["internal/strconv.uint64pow10", "math/bits.deBruijn32tab", "math/bits.deBruijn64tab"], apart := false, laid := [("math/bits.deBruijn32tab", laid_math_bits_deBruijn32tab), ("math/bits.deBruijn64tab", laid_math_bits_deBruijn64tab), ("internal/strconv.uint64pow10", laid_internal_strconv_uint64pow10)], narrowed := true }
def FnNormalOfUptoSaid : Prop := fnNormalOfUptoRow.holds Tryz.pinned (OpenSpec.upto fnNormalOfSpec)

/-- 'laws.FnExactTermsWeak', WHERE WHAT IT READS IS OF BULK AT MOST 1048576: true; the input reads as it did. -/
def fnExactTermsWeakUptoRow : OpenClaim := { program := "ythidlhjjnaldhaagreatdoor", sum := "b426aba6f4d3990f7c09adbf128b4a4758f94a509b08524832ed122c0ac2fac6", func := "loop.example/mobilenames/laws.FnExactTermsWeak", spec := "fnExactTermsWeak", unfollowed := true, recurses := true, named := ["internal/strconv.uint64pow10", "math/bits.deBruijn32tab", "math/bits.deBruijn64tab"], loops := true, apart := false, laid := [("math/bits.deBruijn32tab", laid_math_bits_deBruijn32tab), ("math/bits.deBruijn64tab", laid_math_bits_deBruijn64tab), ("internal/strconv.uint64pow10", laid_internal_strconv_uint64pow10)], narrowed := true }
def FnExactTermsWeakUptoSaid : Prop := fnExactTermsWeakUptoRow.holds Tryz.pinned (OpenSpec.upto fnExactTermsWeakSpec)

/-- 'laws.FnExactTermsRoot', WHERE WHAT IT READS IS OF BULK AT MOST 1048576: true; the input reads as it did. -/
def fnExactTermsRootUptoRow : OpenClaim := { program := "ythidlhjjnaldhaagreatdoor", sum := "b426aba6f4d3990f7c09adbf128b4a4758f94a509b08524832ed122c0ac2fac6", func := "loop.example/mobilenames/laws.FnExactTermsRoot", spec := "fnExactTermsRoot", unfollowed := true, recurses := true, named := ["internal/strconv.uint64pow10", "math/bits.deBruijn32tab", "math/bits.deBruijn64tab"], loops := true, apart := false, laid := [("math/bits.deBruijn32tab", laid_math_bits_deBruijn32tab), ("math/bits.deBruijn64tab", laid_math_bits_deBruijn64tab), ("internal/strconv.uint64pow10", laid_internal_strconv_uint64pow10)], narrowed := true }
def FnExactTermsRootUptoSaid : Prop := fnExactTermsRootUptoRow.holds Tryz.pinned (OpenSpec.upto fnExactTermsRootSpec)

/-- 'laws.FnTermsWeak', WHERE WHAT IT READS IS OF BULK AT MOST 1048576: true; the input reads as it did. -/
def fnTermsWeakUptoRow : OpenClaim := { program := "ythidlhjjnaldhaagreatdoor", sum := "b426aba6f4d3990f7c09adbf128b4a4758f94a509b08524832ed122c0ac2fac6", func := "loop.example/mobilenames/laws.FnTermsWeak", spec := "fnTermsWeak", unfollowed := true, recurses := true, named := ["internal/strconv.uint64pow10", "math/bits.deBruijn32tab", "math/bits.deBruijn64tab"], apart := false, laid := [("math/bits.deBruijn32tab", laid_math_bits_deBruijn32tab), ("math/bits.deBruijn64tab", laid_math_bits_deBruijn64tab), ("internal/strconv.uint64pow10", laid_internal_strconv_uint64pow10)], narrowed := true }
def FnTermsWeakUptoSaid : Prop := fnTermsWeakUptoRow.holds Tryz.pinned (OpenSpec.upto fnTermsWeakSpec)

end Rows
end Go.Proofs.YthidlhjjnaldhaaGreatDoor
