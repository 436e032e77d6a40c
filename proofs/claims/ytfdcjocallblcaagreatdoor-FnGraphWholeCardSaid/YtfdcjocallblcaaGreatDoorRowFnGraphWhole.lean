/- FnGraphWhole holds for whatever it is handed. No condition. -/
import Derived.Test.YtfdcjocallblcaaGreatDoorRows
import Derived.Test.YtfdcjocallblcaaGreatDoorPAll
import Derived.WalkKit
import Derived.ProofKit
import Derived.OpenShut
import Derived.ShutString
import Derived.ChangeOld
import Derived.Below
import Derived.SizedLaws
import Derived.LaidMore
import Derived.Stop.Joined
import Derived.Test.YtfdcjocallblcaaGreatDoorCards
import Derived.Test.YtfdcjocallblcaaGreatDoorTie
import Derived.SevenTiedAt
namespace Go.Proofs.YtfdcjocallblcaaGreatDoor.fnGraphWhole
open Go.ChangeShapes Go.WideShapes Go.ChangeAt Go.RowKit
open Go.ChangeMaps (open_string shut_string)
set_option linter.unusedVariables false
theorem own : ownKnob Tryz.prog.godebug = none := by kernel_rfl
theorem laidOut : laidOutB Tryz.prog = true := by kernel_rfl
def laidL : List (String × DataW Unit) := [("math/bits.deBruijn32tab", Rows.laid_math_bits_deBruijn32tab), ("math/bits.deBruijn64tab", Rows.laid_math_bits_deBruijn64tab), ("internal/strconv.uint64pow10", Rows.laid_internal_strconv_uint64pow10)]
/-- The door's own heap meets the condition. -/
theorem door_met (os : Os) (args : Array Value) : laidMetH Tryz.prog laidL ((World.doorLaid Tryz.prog 400 os).forCall (fun _ _ => 0) ⟨#[], args, []⟩).memory :=
  laidMetH_of_parts3 (fuel := 100) (laidMet_of_run' 100 (by kernel_rfl) (by kernel_rfl)) (by kernel_rfl) (by kernel_rfl)
def tab : List (Nat × Ev.Ty) := [(3, (.int .i64)), (22, (.sl (.int .i64)))]
theorem tabOk : ∀ t k, (fun t => Ev.tyFind t tab) t = some k → Ev.tyFits Tryz.prog (fun t => Ev.tyFind t tab) t k = true := Ev.tab_all (by kernel_rfl)
set_option maxRecDepth 100000 in
theorem lifted (os : Os) (started : os.Started) (H : Type) (enc : TypeId × Value → H) :
    ReturnsInHanded {} Tryz.checked os 3 .any (fun w args => (Rows.fnGraphWholeSpec.pre enc Tryz.prog Tryz.f3 [] false w args ∧ laidMetH Tryz.prog laidL w) ∧ sizedMet enc Tryz.prog Tryz.f3 (OpenSpec.ofChange Rows.fnGraphWholeSpec) false w args) (Rows.fnGraphWholeSpec.post enc Tryz.prog Tryz.f3 false true false false) := by
  refine returnsInHanded_of_change_and (C := Tryz.checked) (X := fun w _ => laidMetH Tryz.prog laidL w) (fun _ _ _ hh h => h.of_heap hh) own started (by kernel_rfl) Tryz.func3
    (ChangeSpec.witness_shaped (enc := enc) (C := Tryz.checked) (os := os) (X := fun w _ => laidMetH Tryz.prog laidL w) false (World.doorLaid Tryz.prog 400 os) #[.int .i64 0, .slice none 0 0, .int .i64 0, .int .i64 0] 8 rfl (World.shaped_of_RefB (by kernel_rfl) (by kernel_rfl)) (by kernel_rfl) (by kernel_rfl) (by kernel_rfl) (door_met os _)) ?_
  intro W base args ds gs before hval0 hW hcnd hsz0 hL0 _
  have hval : ∀ (j : Nat) t v, Tryz.f3.params[j]? = some t → args[j]? = some v → Value.okWide Tryz.prog W .any base t v := hval0
  have hW' := hW
  obtain ⟨p, q, hA0, hV, rfl, hfz, hnd⟩ := hW
  have hA : DataW.TrodAll enc Tryz.prog W 0 (fun _ => true) true Tryz.f3.params.toList args.toList ds p := hA0
  rw [Tryz.params3] at hA hval
  obtain ⟨v0, vs0, d0, ds0, p0, q0, hargs, rfl, rfl, h0, r0⟩ := trodAll_cons hA
  obtain ⟨v1, vs1, d1, ds1, p1, q1, hargs1, rfl, rfl, h1, r1⟩ := trodAll_cons r0
  obtain ⟨v2, vs2, d2, ds2, p2, q2, hargs2, rfl, rfl, h2, r2⟩ := trodAll_cons r1
  obtain ⟨v3, vs3, d3, ds3, p3, q3, hargs3, rfl, rfl, h3, r3⟩ := trodAll_cons r2
  obtain ⟨hn, rfl, rfl⟩ := trodAll_nil r3
  obtain rfl : args = #[v0, v1, v2, v3] := by cases args; simp_all
  obtain ⟨rfl, rfl⟩ := trodVars_none hV
  obtain ⟨x0, e0, o0⟩ := Ev.arg_rep (fz := fun b => b < W.heap.size) tabOk (fun b hb => hb) h0 (k := (.int .i64)) rfl (hval 0 3 v0 rfl rfl)
  have lt0 : ∀ x ∈ p0, x.block < W.heap.size := by have h := h0; obtain ⟨m, hm⟩ := h; exact DataW.trod_lt m _ _ _ hm
  obtain ⟨x1, e1, o1⟩ := Ev.arg_rep (fz := fun b => b < W.heap.size) tabOk (fun b hb => hb) h1 (k := (.sl (.int .i64))) rfl (hval 1 22 v1 rfl rfl)
  have lt1 : ∀ x ∈ p1, x.block < W.heap.size := by have h := h1; obtain ⟨m, hm⟩ := h; exact DataW.trod_lt m _ _ _ hm
  obtain ⟨x2, e2, o2⟩ := Ev.arg_rep (fz := fun b => b < W.heap.size) tabOk (fun b hb => hb) h2 (k := (.int .i64)) rfl (hval 2 3 v2 rfl rfl)
  have lt2 : ∀ x ∈ p2, x.block < W.heap.size := by have h := h2; obtain ⟨m, hm⟩ := h; exact DataW.trod_lt m _ _ _ hm
  obtain ⟨x3, e3, o3⟩ := Ev.arg_rep (fz := fun b => b < W.heap.size) tabOk (fun b hb => hb) h3 (k := (.int .i64)) rfl (hval 3 3 v3 rfl rfl)
  have lt3 : ∀ x ∈ p3, x.block < W.heap.size := by have h := h3; obtain ⟨m, hm⟩ := h; exact DataW.trod_lt m _ _ _ hm
  clear hA0 hval0 hsz0 hL0
  obtain ⟨L, N, hy⟩ := Ev.lawGraphWhole x0 o0 x1 o1 x2 o2 x3 o3
  have hok : Ev.EntOk Tryz.prog 3 (Ev.f3.ent L N) := Ev.Φ3_ok L N 3
  refine (Ev.law_calls hok (ts := [(.int .i64), (.sl (.int .i64)), (.int .i64), (.int .i64)]) (d := (x0, x1, x2, x3, ())) (y := (true : Bool)) hy rfl (cargs := #[v0, v1, v2, v3]) ⟨e0, e1, e2, e3, trivial⟩).mono fun e W' ⟨he, bel⟩ => ?_
  subst he
  exact ⟨_, rfl, _, _, _, [], _, [], hW', trodAll_mk1 (shut_bool Tryz.underlying4 _), (trodAll_cons_mk (Below.trod laidOut (by kernel_rfl) (of_decide_eq_true (by kernel_rfl)) h0 bel lt0) (trodAll_cons_mk (Below.trod laidOut (by kernel_rfl) (of_decide_eq_true (by kernel_rfl)) h1 bel lt1) (trodAll_cons_mk (Below.trod laidOut (by kernel_rfl) (of_decide_eq_true (by kernel_rfl)) h2 bel lt2) (trodAll_cons_mk (Below.trod laidOut (by kernel_rfl) (of_decide_eq_true (by kernel_rfl)) h3 bel lt3) trodAll_mk0)))), rfl, bel.frame _, fun h => by cases h⟩
set_option maxHeartbeats 8000000
theorem named : Tryz.pinned.checked.prog.funcNamed Rows.fnGraphWholeRow.func = some 3 := by kernel_rfl
theorem facts : joinedFacts Tryz.pinned.checked.prog 3 Tryz.f3 Rows.fnGraphWholeSpec Rows.fnGraphWholeRow = true := by
  unfold joinedFacts
  repeat' (with_reducible refine (Bool.and_eq_true_iff).2 ⟨?_, ?_⟩)
  all_goals (as_aux_lemma => kernel_rfl)
theorem isInst : Tryz.f3.isInstance Tryz.pinned.checked.prog Rows.fnGraphWholeRow.origin Rows.fnGraphWholeRow.targs := of_decide_eq_true (by kernel_rfl)
theorem isWrap : Tryz.f3.isWrapper Tryz.pinned.checked.prog Rows.fnGraphWholeRow.wrapper Rows.fnGraphWholeRow.mainSum := by
  unfold Func.isWrapper; first | (rw [if_pos (by decide +kernel)]; kernel_rfl) | (rw [if_neg (by decide +kernel)]; exact ⟨rfl, rfl⟩)
theorem over : Rows.fnGraphWholeRow.holds Tryz.pinned (OpenSpec.ofChange Rows.fnGraphWholeSpec) :=
  OpenClaim.holds_of_wide 3 Tryz.f3 rfl rfl rfl rfl rfl rfl rfl ⟨rfl, rfl, rfl, rfl, rfl⟩ rfl rfl rfl rfl rfl named Tryz.func3 facts
    isInst isWrap
    (fun os started H enc _ => lifted os started H enc)
theorem proved : Rows.FnGraphWholeSaid := over
theorem card : Rows.FnGraphWholeCardSaid :=
  Claim7.holds_tied_plain_at .later [] [.data, .data, .data] true (true, "e9a416b73d55f410f3afe5c43fa7e815f2ae5253662b2dc476e81611b3a319b9") false
    proved (fun _ h => by cases h) (by kernel_rfl) (fun _ h => by cases h) fnGraphWhole_row_tie rfl ⟨rfl, rfl⟩ (by kernel_rfl) rfl
    (fun f fn hf hfn => by
      obtain rfl : f = 3 := Option.some.inj ((show Tryz.prog.funcNamed Rows.fnGraphWholeRow.func = some 3 by kernel_rfl).symm.trans hf) |>.symm
      obtain rfl : fn = Tryz.f3 := (Option.some.inj (Tryz.func3.symm.trans hfn)).symm
      exact ⟨by kernel_rfl, fun j t ht => by
        rw [Tryz.params3] at ht
        have hm : t ∈ [3, 22, 3, 3] := by simpa using Array.mem_of_getElem? ht
        have hall : ([3, 22, 3, 3].all fun u => !Tryz.prog.wantsStandIn u) = true := by kernel_rfl
        exact (show Tryz.prog.wantsStandIn t = false by simpa using List.all_eq_true.1 hall t hm)⟩)
    (by kernel_rfl)
#print axioms card
end Go.Proofs.YtfdcjocallblcaaGreatDoor.fnGraphWhole
namespace Go.Proofs.YtfdcjocallblcaaGreatDoor
/-- The row, under a short name, for the claim. -/
theorem fnGraphWhole_holds : Rows.FnGraphWholeCardSaid := fnGraphWhole.card
end Go.Proofs.YtfdcjocallblcaaGreatDoor

