/- FnBranchClasses holds for whatever it is handed. No condition. -/
import Derived.Test.YtdfjdbpklbehoaaRows
import Derived.Test.YtdfjdbpklbehoaaPAll
import Derived.WalkKit
import Derived.ProofKit
import Derived.OpenShut
import Derived.ShutString
import Derived.ChangeOld
import Derived.Below
import Derived.SizedLaws
namespace Go.Proofs.Ytdfjdbpklbehoaa.fnBranchClasses
open Go.ChangeShapes Go.WideShapes Go.ChangeAt Go.RowKit
open Go.ChangeMaps (open_string shut_string)
set_option linter.unusedVariables false
theorem own : ownKnob Try.prog.godebug = none := by kernel_rfl
theorem laidOut : laidOutB Try.prog = true := by kernel_rfl
def tab : List (Nat × Ev.Ty) := [(5, (.int .u8)), (47, (.sl (.int .u8)))]
theorem tabOk : ∀ t k, (fun t => Ev.tyFind t tab) t = some k → Ev.tyFits Try.prog (fun t => Ev.tyFind t tab) t k = true := Ev.tab_all (by kernel_rfl)
set_option maxRecDepth 100000 in
theorem lifted (os : Os) (started : os.Started) (H : Type) (enc : TypeId × Value → H) :
    ReturnsInHanded {} Try.checked os 9 .any (Rows.fnBranchClassesSpec.pre6 enc Try.prog Try.f9 Rows.fnBranchClassesRow.domain false) (Rows.fnBranchClassesSpec.post enc Try.prog Try.f9 false true false false) := by
  refine returnsInHanded_of_change_sized (C := Try.checked) own started (by kernel_rfl) Try.func9
    (ChangeSpec.witness6 (enc := enc) (C := Try.checked) false ⟨#[], #[.slice none 0 0], []⟩ 8 (by kernel_rfl) (by kernel_rfl) (by kernel_rfl) (by kernel_rfl)) ?_
  intro W base args ds gs before hval0 hW hcnd hsz0 _
  have hval : ∀ (j : Nat) t v, Try.f9.params[j]? = some t → args[j]? = some v → Value.okWide Try.prog W .any base t v := hval0
  have hW' := hW
  obtain ⟨p, q, hA0, hV, rfl, hfz, hnd⟩ := hW
  have hA : DataW.TrodAll enc Try.prog W 0 (fun _ => true) true Try.f9.params.toList args.toList ds p := hA0
  rw [Try.params9] at hA hval
  obtain ⟨v0, vs0, d0, ds0, p0, q0, hargs, rfl, rfl, h0, r0⟩ := trodAll_cons hA
  obtain ⟨hn, rfl, rfl⟩ := trodAll_nil r0
  obtain rfl : args = #[v0] := by cases args; simp_all
  obtain ⟨rfl, rfl⟩ := trodVars_none hV
  obtain ⟨x0, e0, o0⟩ := Ev.arg_rep (fz := fun b => b < W.heap.size) tabOk (fun b hb => hb) h0 (k := (.sl (.int .u8))) rfl (hval 0 47 v0 rfl rfl)
  have lt0 : ∀ x ∈ p0, x.block < W.heap.size := by have h := h0; obtain ⟨m, hm⟩ := h; exact DataW.trod_lt m _ _ _ hm
  clear hA0 hval0 hsz0
  obtain ⟨L, N, hy⟩ := Ev.lawBranch x0 o0
  have hok : Ev.EntOk Try.prog 9 (Ev.f9.ent L N) := Ev.Φ9_ok L N 9
  refine (Ev.law_calls hok (ts := [(.sl (.int .u8))]) (d := (x0, ())) (y := (true : Bool)) hy rfl (cargs := #[v0]) ⟨e0, trivial⟩).mono fun e W' ⟨he, bel⟩ => ?_
  subst he
  exact ⟨_, rfl, _, _, _, [], _, [], hW', trodAll_mk1 (shut_bool Try.underlying4 _), (trodAll_cons_mk (Below.trod laidOut (by kernel_rfl) (of_decide_eq_true (by kernel_rfl)) h0 bel lt0) trodAll_mk0), rfl, bel.frame _, fun h => by cases h⟩
set_option maxHeartbeats 8000000
theorem named : Try.pinned.checked.prog.funcNamed Rows.fnBranchClassesRow.func = some 9 := by kernel_rfl
theorem facts : joinedFacts Try.pinned.checked.prog 9 Try.f9 Rows.fnBranchClassesSpec Rows.fnBranchClassesRow = true := by
  unfold joinedFacts
  repeat' (with_reducible refine (Bool.and_eq_true_iff).2 ⟨?_, ?_⟩)
  all_goals (as_aux_lemma => kernel_rfl)
theorem isInst : Try.f9.isInstance Try.pinned.checked.prog Rows.fnBranchClassesRow.origin Rows.fnBranchClassesRow.targs := of_decide_eq_true (by kernel_rfl)
theorem isWrap : Try.f9.isWrapper Try.pinned.checked.prog Rows.fnBranchClassesRow.wrapper Rows.fnBranchClassesRow.mainSum := by
  unfold Func.isWrapper; first | (rw [if_pos (by decide +kernel)]; kernel_rfl) | (rw [if_neg (by decide +kernel)]; exact ⟨rfl, rfl⟩)
theorem over : Rows.fnBranchClassesRow.holds Try.pinned (OpenSpec.ofChange Rows.fnBranchClassesSpec) :=
  OpenClaim.holds_of_wide 9 Try.f9 rfl rfl rfl rfl rfl rfl rfl ⟨rfl, rfl, rfl, rfl, rfl⟩ rfl rfl rfl rfl rfl named Try.func9 facts
    isInst isWrap
    (fun os started H enc _ => lifted os started H enc)
theorem proved : Rows.FnBranchClassesSaid := over
#print axioms proved
end Go.Proofs.Ytdfjdbpklbehoaa.fnBranchClasses
namespace Go.Proofs.Ytdfjdbpklbehoaa
/-- The row, under a short name, for the claim. -/
theorem fnBranchClasses_holds : Rows.FnBranchClassesSaid := fnBranchClasses.proved
end Go.Proofs.Ytdfjdbpklbehoaa
