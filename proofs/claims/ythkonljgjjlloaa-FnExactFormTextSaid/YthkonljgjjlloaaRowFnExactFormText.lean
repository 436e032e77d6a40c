/- FnExactFormText holds for whatever it is handed. No condition. -/
import Derived.Test.YthkonljgjjlloaaRows
import Derived.Test.YthkonljgjjlloaaP5
import Derived.WalkKit
import Derived.ProofKit
import Derived.OpenShut
import Derived.ShutString
import Derived.ChangeOld
import Derived.Below
import Derived.SizedLaws
namespace Go.Proofs.Ythkonljgjjlloaa.fnExactFormText
open Go.ChangeShapes Go.WideShapes Go.ChangeAt Go.RowKit
open Go.ChangeMaps (open_string shut_string)
set_option linter.unusedVariables false
theorem own : ownKnob Try.prog.godebug = none := by kernel_rfl
theorem laidOut : laidOutB Try.prog = true := by kernel_rfl
def tab : List (Nat × Ev.Ty) := [(3, (.int .i64)), (33, (.sl (.st 1))), (35, (.st 1))]
theorem tabOk : ∀ t k, (fun t => Ev.tyFind t tab) t = some k → Ev.tyFits Try.prog (fun t => Ev.tyFind t tab) t k = true := Ev.tab_all (by kernel_rfl)
set_option maxRecDepth 100000 in
theorem lifted (os : Os) (started : os.Started) (H : Type) (enc : TypeId × Value → H) :
    ReturnsInHanded {} Try.checked os 11 .any (Rows.fnExactFormTextSpec.pre6 enc Try.prog Try.f11 Rows.fnExactFormTextRow.domain false) (Rows.fnExactFormTextSpec.post enc Try.prog Try.f11 false true false false) := by
  refine returnsInHanded_of_change_sized (C := Try.checked) own started (by kernel_rfl) Try.func11
    (ChangeSpec.witness6 (enc := enc) (C := Try.checked) false ⟨#[], #[.agg #[.int .i64 0, .int .i64 0, .slice none 0 0]], []⟩ 8 (by kernel_rfl) (by kernel_rfl) (by kernel_rfl) (by kernel_rfl)) ?_
  intro W base args ds gs before hval0 hW hcnd hsz0 _
  have hval : ∀ (j : Nat) t v, Try.f11.params[j]? = some t → args[j]? = some v → Value.okWide Try.prog W .any base t v := hval0
  have hW' := hW
  obtain ⟨p, q, hA0, hV, rfl, hfz, hnd⟩ := hW
  have hA : DataW.TrodAll enc Try.prog W 0 (fun _ => true) true Try.f11.params.toList args.toList ds p := hA0
  rw [Try.params11] at hA hval
  obtain ⟨v0, vs0, d0, ds0, p0, q0, hargs, rfl, rfl, h0, r0⟩ := trodAll_cons hA
  obtain ⟨hn, rfl, rfl⟩ := trodAll_nil r0
  obtain rfl : args = #[v0] := by cases args; simp_all
  obtain ⟨rfl, rfl⟩ := trodVars_none hV
  obtain ⟨x0, e0, o0⟩ := Ev.arg_rep (fz := fun b => b < W.heap.size) tabOk (fun b hb => hb) h0 (k := (.st 1)) rfl (hval 0 35 v0 rfl rfl)
  have lt0 : ∀ x ∈ p0, x.block < W.heap.size := by have h := h0; obtain ⟨m, hm⟩ := h; exact DataW.trod_lt m _ _ _ hm
  clear hA0 hval0 hsz0
  obtain ⟨L, N, hy⟩ := Ev.f11_ok x0 o0
  have hok : Ev.EntOk Try.prog 11 (Ev.f11.ent L N) := Ev.Φ11_ok L N 11
  refine (Ev.law_calls hok (ts := [(.st 1)]) (d := (x0, ())) (y := (true : Bool)) hy rfl (cargs := #[v0]) ⟨e0, trivial⟩).mono fun e W' ⟨he, bel⟩ => ?_
  subst he
  exact ⟨_, rfl, _, _, _, [], _, [], hW', trodAll_mk1 (shut_bool Try.underlying4 _), (trodAll_cons_mk (Below.trod laidOut (by kernel_rfl) (of_decide_eq_true (by kernel_rfl)) h0 bel lt0) trodAll_mk0), rfl, bel.frame _, fun h => by cases h⟩
theorem over : Rows.fnExactFormTextRow.holds Try.pinned (OpenSpec.ofChange Rows.fnExactFormTextSpec) :=
  OpenClaim.holds_of_wide 11 Try.f11 rfl rfl rfl rfl rfl rfl rfl ⟨rfl, rfl, rfl, rfl, rfl⟩ rfl rfl rfl rfl rfl (by kernel_rfl) Try.func11 (by kernel_rfl)
    (of_decide_eq_true (by kernel_rfl)) (by unfold Func.isWrapper; first | (rw [if_pos (by decide +kernel)]; kernel_rfl) | (rw [if_neg (by decide +kernel)]; exact ⟨rfl, rfl⟩))
    (fun os started H enc _ => lifted os started H enc)
theorem proved : Rows.FnExactFormTextSaid := over
#print axioms proved
end Go.Proofs.Ythkonljgjjlloaa.fnExactFormText
namespace Go.Proofs.Ythkonljgjjlloaa
/-- The row, under a short name, for the claim. -/
theorem fnExactFormText_holds : Rows.FnExactFormTextSaid := fnExactFormText.proved
end Go.Proofs.Ythkonljgjjlloaa
