/- FnSureGraph holds for whatever it is handed. No condition. -/
import Derived.Test.YtffkhhblppfbfaaGreatDoorRows
import Derived.Test.YtffkhhblppfbfaaGreatDoorPAll
import Derived.WalkKit
import Derived.ProofKit
import Derived.OpenShut
import Derived.ShutString
import Derived.ChangeOld
import Derived.Below
import Derived.SizedLaws
import Derived.LaidMore
import Derived.Stop.Joined
import Derived.Test.YtffkhhblppfbfaaGreatDoorCards
import Derived.Test.YtffkhhblppfbfaaGreatDoorTie
import Derived.SevenTiedAt
namespace Go.Proofs.YtffkhhblppfbfaaGreatDoor.fnSureGraph
open Go.ChangeShapes Go.WideShapes Go.ChangeAt Go.RowKit
open Go.ChangeMaps (open_string shut_string)
set_option linter.unusedVariables false
theorem own : ownKnob Tryz.prog.godebug = none := by kernel_rfl
theorem laidOut : laidOutB Tryz.prog = true := by kernel_rfl
def laidL : List (String × DataW Unit) := [("math/bits.deBruijn32tab", Rows.laid_math_bits_deBruijn32tab), ("math/bits.deBruijn64tab", Rows.laid_math_bits_deBruijn64tab), ("internal/strconv.uint64pow10", Rows.laid_internal_strconv_uint64pow10)]
/-- The door's own heap meets the condition. -/
theorem door_met (os : Os) (args : Array Value) : laidMetH Tryz.prog laidL ((World.doorLaid Tryz.prog 400 os).forCall (fun _ _ => 0) ⟨#[], args, []⟩).memory :=
  laidMetH_of_parts3 (fuel := 100) (laidMet_of_run' 100 (by kernel_rfl) (by kernel_rfl)) (by kernel_rfl) (by kernel_rfl)
def tab : List (Nat × Ev.Ty) := [(5, (.int .u8)), (43, (.sl (.int .u8)))]
theorem tabOk : ∀ t k, (fun t => Ev.tyFind t tab) t = some k → Ev.tyFits Tryz.prog (fun t => Ev.tyFind t tab) t k = true := Ev.tab_all (by kernel_rfl)
set_option maxRecDepth 100000 in
theorem lifted (os : Os) (started : os.Started) (H : Type) (enc : TypeId × Value → H) :
    ReturnsInHanded {} Tryz.checked os 4 .any (fun w args => (Rows.fnSureGraphSpec.pre enc Tryz.prog Tryz.f4 [] false w args ∧ laidMetH Tryz.prog laidL w) ∧ sizedMet enc Tryz.prog Tryz.f4 (OpenSpec.ofChange Rows.fnSureGraphSpec) false w args) (Rows.fnSureGraphSpec.post enc Tryz.prog Tryz.f4 false true false false) := by
  refine returnsInHanded_of_change_and (C := Tryz.checked) (X := fun w _ => laidMetH Tryz.prog laidL w) (fun _ _ _ hh h => h.of_heap hh) own started (by kernel_rfl) Tryz.func4
    (ChangeSpec.witness_shaped (enc := enc) (C := Tryz.checked) (os := os) (X := fun w _ => laidMetH Tryz.prog laidL w) false (World.doorLaid Tryz.prog 400 os) #[.slice none 0 0] 8 rfl (World.shaped_of_RefB (by kernel_rfl) (by kernel_rfl)) (by kernel_rfl) (by kernel_rfl) (by kernel_rfl) (door_met os _)) ?_
  intro W base args ds gs before hval0 hW hcnd hsz0 hL0 _
  have hval : ∀ (j : Nat) t v, Tryz.f4.params[j]? = some t → args[j]? = some v → Value.okWide Tryz.prog W .any base t v := hval0
  have hW' := hW
  obtain ⟨p, q, hA0, hV, rfl, hfz, hnd⟩ := hW
  have hA : DataW.TrodAll enc Tryz.prog W 0 (fun _ => true) true Tryz.f4.params.toList args.toList ds p := hA0
  rw [Tryz.params4] at hA hval
  obtain ⟨v0, vs0, d0, ds0, p0, q0, hargs, rfl, rfl, h0, r0⟩ := trodAll_cons hA
  obtain ⟨hn, rfl, rfl⟩ := trodAll_nil r0
  obtain rfl : args = #[v0] := by cases args; simp_all
  obtain ⟨rfl, rfl⟩ := trodVars_none hV
  obtain ⟨x0, e0, o0⟩ := Ev.arg_rep (fz := fun b => b < W.heap.size) tabOk (fun b hb => hb) h0 (k := (.sl (.int .u8))) rfl (hval 0 43 v0 rfl rfl)
  have lt0 : ∀ x ∈ p0, x.block < W.heap.size := by have h := h0; obtain ⟨m, hm⟩ := h; exact DataW.trod_lt m _ _ _ hm
  clear hA0 hval0 hsz0 hL0
  obtain ⟨L, N, hy⟩ := Ev.lawSureGraph x0 o0
  have hok : Ev.EntOk Tryz.prog 4 (Ev.f4.ent L N) := Ev.Φ4_ok L N 4
  refine (Ev.law_calls hok (ts := [(.sl (.int .u8))]) (d := (x0, ())) (y := (true : Bool)) hy rfl (cargs := #[v0]) ⟨e0, trivial⟩).mono fun e W' ⟨he, bel⟩ => ?_
  subst he
  exact ⟨_, rfl, _, _, _, [], _, [], hW', trodAll_mk1 (shut_bool Tryz.underlying4 _), (trodAll_cons_mk (Below.trod laidOut (by kernel_rfl) (of_decide_eq_true (by kernel_rfl)) h0 bel lt0) trodAll_mk0), rfl, bel.frame _, fun h => by cases h⟩
set_option maxHeartbeats 8000000
theorem named : Tryz.pinned.checked.prog.funcNamed Rows.fnSureGraphRow.func = some 4 := by kernel_rfl
theorem facts : joinedFacts Tryz.pinned.checked.prog 4 Tryz.f4 Rows.fnSureGraphSpec Rows.fnSureGraphRow = true := by
  unfold joinedFacts
  repeat' (with_reducible refine (Bool.and_eq_true_iff).2 ⟨?_, ?_⟩)
  all_goals (as_aux_lemma => kernel_rfl)
theorem isInst : Tryz.f4.isInstance Tryz.pinned.checked.prog Rows.fnSureGraphRow.origin Rows.fnSureGraphRow.targs := of_decide_eq_true (by kernel_rfl)
theorem isWrap : Tryz.f4.isWrapper Tryz.pinned.checked.prog Rows.fnSureGraphRow.wrapper Rows.fnSureGraphRow.mainSum := by
  unfold Func.isWrapper; first | (rw [if_pos (by decide +kernel)]; kernel_rfl) | (rw [if_neg (by decide +kernel)]; exact ⟨rfl, rfl⟩)
theorem over : Rows.fnSureGraphRow.holds Tryz.pinned (OpenSpec.ofChange Rows.fnSureGraphSpec) :=
  OpenClaim.holds_of_wide 4 Tryz.f4 rfl rfl rfl rfl rfl rfl rfl ⟨rfl, rfl, rfl, rfl, rfl⟩ rfl rfl rfl rfl rfl named Tryz.func4 facts
    isInst isWrap
    (fun os started H enc _ => lifted os started H enc)
theorem proved : Rows.FnSureGraphSaid := over
theorem card : Rows.FnSureGraphCardSaid :=
  Claim7.holds_tied_plain_at .later [] [.data, .data, .data] true (true, "ba70a2f839378ea9efab15789f23c6917d8d3404b47b4e20a4fed8d775638f79") false
    proved (fun _ h => by cases h) (by kernel_rfl) (fun _ h => by cases h) fnSureGraph_row_tie rfl ⟨rfl, rfl⟩ (by kernel_rfl) rfl
    (fun f fn hf hfn => by
      obtain rfl : f = 4 := Option.some.inj ((show Tryz.prog.funcNamed Rows.fnSureGraphRow.func = some 4 by kernel_rfl).symm.trans hf) |>.symm
      obtain rfl : fn = Tryz.f4 := (Option.some.inj (Tryz.func4.symm.trans hfn)).symm
      exact ⟨by kernel_rfl, fun j t ht => by
        rw [Tryz.params4] at ht
        have hm : t ∈ [43] := by simpa using Array.mem_of_getElem? ht
        have hall : ([43].all fun u => !Tryz.prog.wantsStandIn u) = true := by kernel_rfl
        exact (show Tryz.prog.wantsStandIn t = false by simpa using List.all_eq_true.1 hall t hm)⟩)
    (by kernel_rfl)
#print axioms card
end Go.Proofs.YtffkhhblppfbfaaGreatDoor.fnSureGraph
namespace Go.Proofs.YtffkhhblppfbfaaGreatDoor
/-- The row, under a short name, for the claim. -/
theorem fnSureGraph_holds : Rows.FnSureGraphCardSaid := fnSureGraph.card
end Go.Proofs.YtffkhhblppfbfaaGreatDoor

