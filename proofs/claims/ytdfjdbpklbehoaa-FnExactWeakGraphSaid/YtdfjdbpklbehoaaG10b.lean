/- The seat's functions as plain functions, continued: made by program (wip/gen/gen.py). -/
import Derived.Test.YtdfjdbpklbehoaaG10a
namespace Go.Proofs.Ytdfjdbpklbehoaa.Ev
open Go
set_option linter.unusedVariables false
set_option maxRecDepth 20000
theorem f87.p1_e2'_nat {R R' : Type} (j : R → Option R') (L N : Nat) (k0_e0 : (List (List Move)) → Option R) (rec0 : Bool → (List (List Bool)) → Int → (List (List Move)) → (List (List Move)) → Option R) (z14 : Bool) (z15 : (List (List Bool))) (z16 : Int) (z17 : (List (List Move))) (z18 : (List Move)) (z19 : (List (List Move))) :
    f87.p1_e2' L N (fun a0 => (k0_e0 a0).bind j) (fun a0 a1 a2 a3 a4 => (rec0 a0 a1 a2 a3 a4).bind j) z14 z15 z16 z17 z18 z19 = (f87.p1_e2' L N k0_e0 rec0 z14 z15 z16 z17 z18 z19).bind j := by
  unfold f87.p1_e2'
  repeat' (first | (with_reducible refine cond_nat ?_ ?_) | (with_reducible refine bind_nat fun _ => ?_) | rfl)
theorem f87.p1_e2_nat {R R' : Type} (j : R → Option R') (L N : Nat) (k0_e0 : (List (List Move)) → Option R) (rec0 : Bool → (List (List Bool)) → Int → (List (List Move)) → (List (List Move)) → Option R) (z14 : Bool) (z15 : (List (List Bool))) (z16 : Int) (z17 : (List (List Move))) (z18 : (List Move)) (z19 : (List (List Move))) :
    f87.p1_e2 L N (fun a0 => (k0_e0 a0).bind j) (fun a0 a1 a2 a3 a4 => (rec0 a0 a1 a2 a3 a4).bind j) z14 z15 z16 z17 z18 z19 = (f87.p1_e2 L N k0_e0 rec0 z14 z15 z16 z17 z18 z19).bind j := by
  unfold f87.p1_e2
  exact f87.p1_e2'_nat ..
theorem f87.s0'_nat {R R' : Type} (j : R → Option R') (L N : Nat) (k0_e0 : (List (List Move)) → Option R) (rec0 : Bool → (List (List Bool)) → Int → (List (List Move)) → (List (List Move)) → Option R) (w1 : Bool → (List (List Bool)) → Int → Int → (List (List Move)) → (List Move) → (List (List Move)) → Option R) (s1 : Bool) (s2 : (List (List Bool))) (s3 : Int) (s4 : (List (List Move))) (s5 : (List (List Move))) :
    f87.s0' L N (fun a0 => (k0_e0 a0).bind j) (fun a0 a1 a2 a3 a4 => (rec0 a0 a1 a2 a3 a4).bind j) (fun a0 a1 a2 a3 a4 a5 a6 => (w1 a0 a1 a2 a3 a4 a5 a6).bind j) s1 s2 s3 s4 s5 = (f87.s0' L N k0_e0 rec0 w1 s1 s2 s3 s4 s5).bind j := by
  unfold f87.s0'
  repeat' (first | (with_reducible refine cond_nat ?_ ?_) | (with_reducible refine bind_nat fun _ => ?_) | rfl)
theorem f87.s0_nat {R R' : Type} (j : R → Option R') (L N : Nat) (k0_e0 : (List (List Move)) → Option R) (rec0 : Bool → (List (List Bool)) → Int → (List (List Move)) → (List (List Move)) → Option R) (s1 : Bool) (s2 : (List (List Bool))) (s3 : Int) (s4 : (List (List Move))) (s5 : (List (List Move))) :
    f87.s0 L N (fun a0 => (k0_e0 a0).bind j) (fun a0 a1 a2 a3 a4 => (rec0 a0 a1 a2 a3 a4).bind j) s1 s2 s3 s4 s5 = (f87.s0 L N k0_e0 rec0 s1 s2 s3 s4 s5).bind j := by
  unfold f87.s0
  simp only [f87.l1_nat, f87.p1_e2_nat]
  exact f87.s0'_nat ..
theorem f87.l0_nat {R R' : Type} (j : R → Option R') (L N : Nat) (k0_e0 : (List (List Move)) → Option R) : ∀ (n : Nat) (s1 : Bool) (s2 : (List (List Bool))) (s3 : Int) (s4 : (List (List Move))) (s5 : (List (List Move))),
    f87.l0 L N (fun a0 => (k0_e0 a0).bind j) n s1 s2 s3 s4 s5 = (f87.l0 L N k0_e0 n s1 s2 s3 s4 s5).bind j := by
  intro n
  induction n with
  | zero => intros; rfl
  | succ n ih =>
    intro s1 s2 s3 s4 s5
    show f87.s0 L N (fun a0 => (k0_e0 a0).bind j) (f87.l0 L N (fun a0 => (k0_e0 a0).bind j) n) s1 s2 s3 s4 s5 = _
    rw [show f87.l0 L N (fun a0 => (k0_e0 a0).bind j) n = (fun s1 s2 s3 s4 s5 => (f87.l0 L N k0_e0 n s1 s2 s3 s4 s5).bind j) from funext fun s1 => funext fun s2 => funext fun s3 => funext fun s4 => funext fun s5 => ih s1 s2 s3 s4 s5]
    exact f87.s0_nat ..
theorem f87.p0_e0'_nat {R R' : Type} (j : R → Option R') (L N : Nat) (k : Graph → Option R) (z6 : (List (List Move))) :
    f87.p0_e0' L N (fun a0 => (k a0).bind j) z6 = (f87.p0_e0' L N k z6).bind j := by
  unfold f87.p0_e0'
  repeat' (first | (with_reducible refine cond_nat ?_ ?_) | (with_reducible refine bind_nat fun _ => ?_) | rfl)
theorem f87.p0_e0_nat {R R' : Type} (j : R → Option R') (L N : Nat) (k : Graph → Option R) (z6 : (List (List Move))) :
    f87.p0_e0 L N (fun a0 => (k a0).bind j) z6 = (f87.p0_e0 L N k z6).bind j := by
  unfold f87.p0_e0
  exact f87.p0_e0'_nat ..
theorem f87.b'_nat {R R' : Type} (j : R → Option R') (L N : Nat) (k : Graph → Option R) (w0 : Bool → (List (List Bool)) → Int → (List (List Move)) → (List (List Move)) → Option R) (x0 : Graph) (x1 : Bool) :
    f87.b' L N (fun a0 => (k a0).bind j) (fun a0 a1 a2 a3 a4 => (w0 a0 a1 a2 a3 a4).bind j) x0 x1 = (f87.b' L N k w0 x0 x1).bind j := by
  unfold f87.b'
  repeat' (first | (with_reducible refine cond_nat ?_ ?_) | (with_reducible refine bind_nat fun _ => ?_) | rfl)
theorem f87.b_nat {R R' : Type} (j : R → Option R') (L N : Nat) (k : Graph → Option R) (x0 : Graph) (x1 : Bool) :
    f87.b L N (fun a0 => (k a0).bind j) x0 x1 = (f87.b L N k x0 x1).bind j := by
  unfold f87.b
  simp only [f87.l0_nat, f87.p0_e0_nat]
  exact f87.b'_nat ..
theorem f87.ok (L N : Nat) (hΦ : TellsOk Try.prog ((Φ123 L N))) : EntOk Try.prog 87 (f87.ent L N) := by
  intro args vw site h
  unfold f87.ent
  split
  · rename_i d u ha
    intro y hy hs
    refine call_data (dep := 1000) (E := (E87 L N)) (rs := (.one (.st 2))) (v' := (.tv (.st 2) y)) (sound_of hΦ) okP (callI_sound (sound_of hΦ) okP 1 2000) (f := Try.f87) rfl hs ha ?_ site
    refine (f87.b_eq L N some d.1 d.2.1).trans ?_
    refine ((f87.b_nat (fun y => (some (.tv (.st 2) y) : Option AV)) L N some d.1 d.2.1)).trans ?_
    rw [show f87.b L N some d.1 d.2.1 = some y from hy]
    rfl
  · intro y hy
    cases hy
def Φ87 (L N : Nat) : Tells := (addT (Φ123 L N) 87 (f87.ent L N))
theorem Φ87_ok (L N : Nat) : TellsOk Try.prog (Φ87 L N) := addT_ok (Φ123_ok L N) (f87.ok L N (Φ123_ok L N))
def f46.b' {R : Type} (L N : Nat) (k : Graph → Bool → Option R) (x0 : Graph) : Option R :=
  (f58 L N (Graph.mk x0.moves)).bind fun y0 =>
  bif (!y0) then
    k (Graph.mk []) false
  else (f87 L N (Graph.mk x0.moves) false).bind fun y1 =>
  k (Graph.mk y1.moves) true
def f46.b {R : Type} (L N : Nat) (k : Graph → Bool → Option R) (x0 : Graph) : Option R :=
  f46.b' L N k x0
def f46 (L N : Nat) (x0 : Graph) : Option (Graph × Bool) := f46.b L N (fun a0 a1 => some (a0, a1)) x0
def f46.ent (L N : Nat) (args : List AV) (vw : View) (site : Nat) : Ans := match coeD [(.st 2)] vw args with
  | some (d, u) => ⟨Graph × Bool, f46 L N d.1, fun y => ((.tup [(.tv (.st 2) y.1), (.tv .bool y.2)]), u, [])⟩
  | none => Ans.no
noncomputable def E46 (L N : Nat) : Env := { P := Try.prog, ty := tyOf, Φ := (Φ87 L N), inl := inlT, live := lives, liveX := livesX, L := L, dp := none, prom := promT, heal := healT, ren := renT }
theorem f46.b_pre {R : Type} (L N : Nat) (κ : AV → Option R) (x0 : Graph) :
    evBody (E46 L N) (evCallI (E46 L N) 1 2000) 1000 46 Try.f46 [(.tv (.st 2) x0)] [] [] (finC (.many [(.st 2), .bool]) κ)
    = f46.b' L N (fun a0 a1 => κ (.tup [(.tv (.st 2) a0), (.tv .bool a1)])) x0 := by kernel_rfl
theorem f46.b_eq {R : Type} (L N : Nat) (κ : AV → Option R) (x0 : Graph) :
    evBody (E46 L N) (evCallI (E46 L N) 1 2000) 1000 46 Try.f46 [(.tv (.st 2) x0)] [] [] (finC (.many [(.st 2), .bool]) κ)
    = f46.b L N (fun a0 a1 => κ (.tup [(.tv (.st 2) a0), (.tv .bool a1)])) x0 := by
  rw [f46.b_pre]
  unfold f46.b
  rfl
theorem f46.b'_nat {R R' : Type} (j : R → Option R') (L N : Nat) (k : Graph → Bool → Option R) (x0 : Graph) :
    f46.b' L N (fun a0 a1 => (k a0 a1).bind j) x0 = (f46.b' L N k x0).bind j := by
  unfold f46.b'
  repeat' (first | (with_reducible refine cond_nat ?_ ?_) | (with_reducible refine bind_nat fun _ => ?_) | rfl)
theorem f46.b_nat {R R' : Type} (j : R → Option R') (L N : Nat) (k : Graph → Bool → Option R) (x0 : Graph) :
    f46.b L N (fun a0 a1 => (k a0 a1).bind j) x0 = (f46.b L N k x0).bind j := by
  unfold f46.b
  exact f46.b'_nat ..
theorem f46.ok (L N : Nat) (hΦ : TellsOk Try.prog ((Φ87 L N))) : EntOk Try.prog 46 (f46.ent L N) := by
  intro args vw site h
  unfold f46.ent
  split
  · rename_i d u ha
    intro y hy hs
    refine call_data (dep := 1000) (E := (E46 L N)) (rs := (.many [(.st 2), .bool])) (v' := (.tup [(.tv (.st 2) y.1), (.tv .bool y.2)])) (sound_of hΦ) okP (callI_sound (sound_of hΦ) okP 1 2000) (f := Try.f46) rfl hs ha ?_ site
    refine (f46.b_eq L N some d.1).trans ?_
    refine ((f46.b_nat (fun y => (some (.tup [(.tv (.st 2) y.1), (.tv .bool y.2)]) : Option AV)) L N (fun a0 a1 => some (a0, a1)) d.1)).trans ?_
    rw [show f46.b L N (fun a0 a1 => some (a0, a1)) d.1 = some y from hy]
    rfl
  · intro y hy
    cases hy
def Φ46 (L N : Nat) : Tells := (addT (Φ87 L N) 46 (f46.ent L N))
theorem Φ46_ok (L N : Nat) : TellsOk Try.prog (Φ46 L N) := addT_ok (Φ87_ok L N) (f46.ok L N (Φ87_ok L N))
def f72.b' {R : Type} (L N : Nat) (k : Bool → Option R) (x0 : Int) : Option R :=
  bif (decide (x0 ≥ (-4 : Int))) then
    k (decide (x0 ≤ (4 : Int)))
  else k false
def f72.b {R : Type} (L N : Nat) (k : Bool → Option R) (x0 : Int) : Option R :=
  f72.b' L N k x0
def f72 (L N : Nat) (x0 : Int) : Option (Bool) := f72.b L N some x0
def f72.ent (L N : Nat) (args : List AV) (vw : View) (site : Nat) : Ans := match roD [i64] vw args with
  | some d => ⟨Bool, f72 L N d.1, fun y => ((.tv .bool y), [], [])⟩
  | none => Ans.no
noncomputable def E72 (L N : Nat) : Env := { P := Try.prog, ty := tyOf, Φ := (Φ46 L N), inl := inlT, live := lives, liveX := livesX, L := L, dp := none, prom := promT, heal := healT, ren := renT }
theorem f72.b_pre {R : Type} (L N : Nat) (κ : AV → Option R) (x0 : Int) :
    evBody (E72 L N) (evCallI (E72 L N) 1 2000) 1000 72 Try.f72 [(.tv i64 x0)] [] [] (finC (.one .bool) κ)
    = f72.b' L N (fun a0 => κ (.tv .bool a0)) x0 := by kernel_rfl
theorem f72.b_eq {R : Type} (L N : Nat) (κ : AV → Option R) (x0 : Int) :
    evBody (E72 L N) (evCallI (E72 L N) 1 2000) 1000 72 Try.f72 [(.tv i64 x0)] [] [] (finC (.one .bool) κ)
    = f72.b L N (fun a0 => κ (.tv .bool a0)) x0 := by
  rw [f72.b_pre]
  unfold f72.b
  rfl
theorem f72.b'_nat {R R' : Type} (j : R → Option R') (L N : Nat) (k : Bool → Option R) (x0 : Int) :
    f72.b' L N (fun a0 => (k a0).bind j) x0 = (f72.b' L N k x0).bind j := by
  unfold f72.b'
  repeat' (first | (with_reducible refine cond_nat ?_ ?_) | (with_reducible refine bind_nat fun _ => ?_) | rfl)
theorem f72.b_nat {R R' : Type} (j : R → Option R') (L N : Nat) (k : Bool → Option R) (x0 : Int) :
    f72.b L N (fun a0 => (k a0).bind j) x0 = (f72.b L N k x0).bind j := by
  unfold f72.b
  exact f72.b'_nat ..
theorem f72.ok (L N : Nat) (hΦ : TellsOk Try.prog ((Φ46 L N))) : EntOk Try.prog 72 (f72.ent L N) := by
  intro args vw site h
  unfold f72.ent
  split
  · rename_i d ha
    intro y hy hs
    refine call_ro (dep := 1000) (E := (E72 L N)) (rs := (.one .bool)) (v := (.tv .bool y)) (sound_of hΦ) okP (callI_sound (sound_of hΦ) okP 1 2000) (f := Try.f72) rfl hs ha ?_ rfl site
    refine (f72.b_eq L N some d.1).trans ?_
    refine ((f72.b_nat (fun y => (some (.tv .bool y) : Option AV)) L N some d.1)).trans ?_
    rw [show f72.b L N some d.1 = some y from hy]
    rfl
  · intro y hy
    cases hy
def Φ72 (L N : Nat) : Tells := (addT (Φ46 L N) 72 (f72.ent L N))
theorem Φ72_ok (L N : Nat) : TellsOk Try.prog (Φ72 L N) := addT_ok (Φ46_ok L N) (f72.ok L N (Φ46_ok L N))
def f136.b' {R : Type} (L N : Nat) (k : Bool → Option R) (x0 : Int) : Option R :=
  k (x0 != x0)
def f136.b {R : Type} (L N : Nat) (k : Bool → Option R) (x0 : Int) : Option R :=
  f136.b' L N k x0
def f136 (L N : Nat) (x0 : Int) : Option (Bool) := f136.b L N some x0
def f136.ent (L N : Nat) (args : List AV) (vw : View) (site : Nat) : Ans := match roD [i64] vw args with
  | some d => ⟨Bool, f136 L N d.1, fun y => ((.tv .bool y), [], [])⟩
  | none => Ans.no
noncomputable def E136 (L N : Nat) : Env := { P := Try.prog, ty := tyOf, Φ := (Φ72 L N), inl := inlT, live := lives, liveX := livesX, L := L, dp := none, prom := promT, heal := healT, ren := renT }
theorem f136.b_pre {R : Type} (L N : Nat) (κ : AV → Option R) (x0 : Int) :
    evBody (E136 L N) (evCallI (E136 L N) 1 2000) 1000 136 Try.f136 [(.tv i64 x0)] [] [] (finC (.one .bool) κ)
    = f136.b' L N (fun a0 => κ (.tv .bool a0)) x0 := by kernel_rfl
theorem f136.b_eq {R : Type} (L N : Nat) (κ : AV → Option R) (x0 : Int) :
    evBody (E136 L N) (evCallI (E136 L N) 1 2000) 1000 136 Try.f136 [(.tv i64 x0)] [] [] (finC (.one .bool) κ)
    = f136.b L N (fun a0 => κ (.tv .bool a0)) x0 := by
  rw [f136.b_pre]
  unfold f136.b
  rfl
theorem f136.b'_nat {R R' : Type} (j : R → Option R') (L N : Nat) (k : Bool → Option R) (x0 : Int) :
    f136.b' L N (fun a0 => (k a0).bind j) x0 = (f136.b' L N k x0).bind j := by
  unfold f136.b'
  repeat' (first | (with_reducible refine cond_nat ?_ ?_) | (with_reducible refine bind_nat fun _ => ?_) | rfl)
theorem f136.b_nat {R R' : Type} (j : R → Option R') (L N : Nat) (k : Bool → Option R) (x0 : Int) :
    f136.b L N (fun a0 => (k a0).bind j) x0 = (f136.b L N k x0).bind j := by
  unfold f136.b
  exact f136.b'_nat ..
theorem f136.ok (L N : Nat) (hΦ : TellsOk Try.prog ((Φ72 L N))) : EntOk Try.prog 136 (f136.ent L N) := by
  intro args vw site h
  unfold f136.ent
  split
  · rename_i d ha
    intro y hy hs
    refine call_ro (dep := 1000) (E := (E136 L N)) (rs := (.one .bool)) (v := (.tv .bool y)) (sound_of hΦ) okP (callI_sound (sound_of hΦ) okP 1 2000) (f := Try.f136) rfl hs ha ?_ rfl site
    refine (f136.b_eq L N some d.1).trans ?_
    refine ((f136.b_nat (fun y => (some (.tv .bool y) : Option AV)) L N some d.1)).trans ?_
    rw [show f136.b L N some d.1 = some y from hy]
    rfl
  · intro y hy
    cases hy
def Φ136 (L N : Nat) : Tells := (addT (Φ72 L N) 136 (f136.ent L N))
theorem Φ136_ok (L N : Nat) : TellsOk Try.prog (Φ136 L N) := addT_ok (Φ72_ok L N) (f136.ok L N (Φ72_ok L N))
def f108.b' {R : Type} (L N : Nat) (k : Int → Option R) (x0 : Int) (x1 : Int) : Option R :=
  (f136 L N x0).bind fun y0 =>
  (f136 L N x1).bind fun y1 =>
  bif y0 then
    bif y1 then
      k (0 : Int)
    else k (-1 : Int)
  else bif y1 then
    k (1 : Int)
  else bif (decide (x0 < x1)) then
    k (-1 : Int)
  else bif (decide (x0 > x1)) then
    k (1 : Int)
  else k (0 : Int)
def f108.b {R : Type} (L N : Nat) (k : Int → Option R) (x0 : Int) (x1 : Int) : Option R :=
  f108.b' L N k x0 x1
def f108 (L N : Nat) (x0 : Int) (x1 : Int) : Option (Int) := f108.b L N some x0 x1
def f108.ent (L N : Nat) (args : List AV) (vw : View) (site : Nat) : Ans := match roD [i64, i64] vw args with
  | some d => ⟨Int, f108 L N d.1 d.2.1, fun y => ((.tv i64 y), [], [])⟩
  | none => Ans.no
noncomputable def E108 (L N : Nat) : Env := { P := Try.prog, ty := tyOf, Φ := (Φ136 L N), inl := inlT, live := lives, liveX := livesX, L := L, dp := none, prom := promT, heal := healT, ren := renT }
theorem f108.b_pre {R : Type} (L N : Nat) (κ : AV → Option R) (x0 : Int) (x1 : Int) :
    evBody (E108 L N) (evCallI (E108 L N) 1 2000) 1000 108 Try.f108 [(.tv i64 x0), (.tv i64 x1)] [] [] (finC (.one i64) κ)
    = f108.b' L N (fun a0 => κ (.tv i64 a0)) x0 x1 := by kernel_rfl
theorem f108.b_eq {R : Type} (L N : Nat) (κ : AV → Option R) (x0 : Int) (x1 : Int) :
    evBody (E108 L N) (evCallI (E108 L N) 1 2000) 1000 108 Try.f108 [(.tv i64 x0), (.tv i64 x1)] [] [] (finC (.one i64) κ)
    = f108.b L N (fun a0 => κ (.tv i64 a0)) x0 x1 := by
  rw [f108.b_pre]
  unfold f108.b
  rfl
theorem f108.b'_nat {R R' : Type} (j : R → Option R') (L N : Nat) (k : Int → Option R) (x0 : Int) (x1 : Int) :
    f108.b' L N (fun a0 => (k a0).bind j) x0 x1 = (f108.b' L N k x0 x1).bind j := by
  unfold f108.b'
  repeat' (first | (with_reducible refine cond_nat ?_ ?_) | (with_reducible refine bind_nat fun _ => ?_) | rfl)
theorem f108.b_nat {R R' : Type} (j : R → Option R') (L N : Nat) (k : Int → Option R) (x0 : Int) (x1 : Int) :
    f108.b L N (fun a0 => (k a0).bind j) x0 x1 = (f108.b L N k x0 x1).bind j := by
  unfold f108.b
  exact f108.b'_nat ..
theorem f108.ok (L N : Nat) (hΦ : TellsOk Try.prog ((Φ136 L N))) : EntOk Try.prog 108 (f108.ent L N) := by
  intro args vw site h
  unfold f108.ent
  split
  · rename_i d ha
    intro y hy hs
    refine call_ro (dep := 1000) (E := (E108 L N)) (rs := (.one i64)) (v := (.tv i64 y)) (sound_of hΦ) okP (callI_sound (sound_of hΦ) okP 1 2000) (f := Try.f108) rfl hs ha ?_ rfl site
    refine (f108.b_eq L N some d.1 d.2.1).trans ?_
    refine ((f108.b_nat (fun y => (some (.tv i64 y) : Option AV)) L N some d.1 d.2.1)).trans ?_
    rw [show f108.b L N some d.1 d.2.1 = some y from hy]
    rfl
  · intro y hy
    cases hy
def Φ108 (L N : Nat) : Tells := (addT (Φ136 L N) 108 (f108.ent L N))
theorem Φ108_ok (L N : Nat) : TellsOk Try.prog (Φ108 L N) := addT_ok (Φ136_ok L N) (f108.ok L N (Φ136_ok L N))
def f73.b' {R : Type} (L N : Nat) (k : Int → Option R) (x0 : Move) (x1 : Move) : Option R :=
  (f108 L N x0.act x1.act).bind fun y0 =>
  bif (y0 != (0 : Int)) then
    k y0
  else (f108 L N x0.to x1.to).bind fun y1 =>
  k y1
def f73.b {R : Type} (L N : Nat) (k : Int → Option R) (x0 : Move) (x1 : Move) : Option R :=
  f73.b' L N k x0 x1
def f73 (L N : Nat) (x0 : Move) (x1 : Move) : Option (Int) := f73.b L N some x0 x1
def f73.ent (L N : Nat) (args : List AV) (vw : View) (site : Nat) : Ans := match roD [(.st 0), (.st 0)] vw args with
  | some d => ⟨Int, f73 L N d.1 d.2.1, fun y => ((.tv i64 y), [], [])⟩
  | none => Ans.no
noncomputable def E73 (L N : Nat) : Env := { P := Try.prog, ty := tyOf, Φ := (Φ108 L N), inl := inlT, live := lives, liveX := livesX, L := L, dp := none, prom := promT, heal := healT, ren := renT }
theorem f73.b_pre {R : Type} (L N : Nat) (κ : AV → Option R) (x0 : Move) (x1 : Move) :
    evBody (E73 L N) (evCallI (E73 L N) 1 2000) 1000 73 Try.f73 [(.tv (.st 0) x0), (.tv (.st 0) x1)] [] [] (finC (.one i64) κ)
    = f73.b' L N (fun a0 => κ (.tv i64 a0)) x0 x1 := by kernel_rfl
theorem f73.b_eq {R : Type} (L N : Nat) (κ : AV → Option R) (x0 : Move) (x1 : Move) :
    evBody (E73 L N) (evCallI (E73 L N) 1 2000) 1000 73 Try.f73 [(.tv (.st 0) x0), (.tv (.st 0) x1)] [] [] (finC (.one i64) κ)
    = f73.b L N (fun a0 => κ (.tv i64 a0)) x0 x1 := by
  rw [f73.b_pre]
  unfold f73.b
  rfl
theorem f73.b'_nat {R R' : Type} (j : R → Option R') (L N : Nat) (k : Int → Option R) (x0 : Move) (x1 : Move) :
    f73.b' L N (fun a0 => (k a0).bind j) x0 x1 = (f73.b' L N k x0 x1).bind j := by
  unfold f73.b'
  repeat' (first | (with_reducible refine cond_nat ?_ ?_) | (with_reducible refine bind_nat fun _ => ?_) | rfl)
theorem f73.b_nat {R R' : Type} (j : R → Option R') (L N : Nat) (k : Int → Option R) (x0 : Move) (x1 : Move) :
    f73.b L N (fun a0 => (k a0).bind j) x0 x1 = (f73.b L N k x0 x1).bind j := by
  unfold f73.b
  exact f73.b'_nat ..
theorem f73.ok (L N : Nat) (hΦ : TellsOk Try.prog ((Φ108 L N))) : EntOk Try.prog 73 (f73.ent L N) := by
  intro args vw site h
  unfold f73.ent
  split
  · rename_i d ha
    intro y hy hs
    refine call_ro (dep := 1000) (E := (E73 L N)) (rs := (.one i64)) (v := (.tv i64 y)) (sound_of hΦ) okP (callI_sound (sound_of hΦ) okP 1 2000) (f := Try.f73) rfl hs ha ?_ rfl site
    refine (f73.b_eq L N some d.1 d.2.1).trans ?_
    refine ((f73.b_nat (fun y => (some (.tv i64 y) : Option AV)) L N some d.1 d.2.1)).trans ?_
    rw [show f73.b L N some d.1 d.2.1 = some y from hy]
    rfl
  · intro y hy
    cases hy
def Φ73 (L N : Nat) : Tells := (addT (Φ108 L N) 73 (f73.ent L N))
theorem Φ73_ok (L N : Nat) : TellsOk Try.prog (Φ73 L N) := addT_ok (Φ108_ok L N) (f73.ok L N (Φ108_ok L N))
def f32.s1' {R : Type} (L N : Nat) (k1_e2 : (List (List Move)) → Int → Int → (List (List Move)) → Option R) (k1_r : Bool → (List (List Move)) → Int → Int → (List (List Move)) → Option R) (rec1 : (List Move) → (List (List Move)) → Int → Int → (List Move) → Int → Int → (List (List Move)) → Option R) (s7 : (List Move)) (s8 : (List (List Move))) (s9 : Int) (s10 : Int) (s11 : (List Move)) (s12 : Int) (s13 : Int) (s14 : (List (List Move))) : Option R :=
  bif (decide (s13 < s12)) then
    bif (decide (0 ≤ s13) && decide (s13 < (s11.length : Int))) then
      (f72 L N ((listAt s11 (Ty.dflt (.st 0)) s13.toNat).act)).bind fun y19 =>
      bif (!y19) then
        k1_r false s8 s9 s10 s14
      else bif (decide ((listAt s11 (Ty.dflt (.st 0)) s13.toNat).to < (0 : Int))) then
        k1_r false s8 s9 s10 s14
      else bif (decide ((listAt s11 (Ty.dflt (.st 0)) s13.toNat).to ≥ (s14.length : Int))) then
        k1_r false s8 s9 s10 s14
      else bif (decide (s13 > (0 : Int))) then
        bif (decide (0 ≤ (wi (s13 - (1 : Int)))) && decide ((wi (s13 - (1 : Int))) < (s7.length : Int))) then
          (f73 L N (listAt s7 (Ty.dflt (.st 0)) (wi (s13 - (1 : Int))).toNat) (Move.mk ((listAt s11 (Ty.dflt (.st 0)) s13.toNat).act) ((listAt s11 (Ty.dflt (.st 0)) s13.toNat).to))).bind fun y20 =>
          bif (decide (y20 ≥ (0 : Int))) then
            k1_r false s8 s9 s10 s14
          else rec1 s7 s8 s9 s10 s11 s12 (wi (s13 + (1 : Int))) s14
        else none
      else rec1 s7 s8 s9 s10 s11 s12 (wi (s13 + (1 : Int))) s14
    else none
  else k1_e2 s8 s9 s10 s14
def f32.s1 {R : Type} (L N : Nat) (k1_e2 : (List (List Move)) → Int → Int → (List (List Move)) → Option R) (k1_r : Bool → (List (List Move)) → Int → Int → (List (List Move)) → Option R) (rec1 : (List Move) → (List (List Move)) → Int → Int → (List Move) → Int → Int → (List (List Move)) → Option R) (s7 : (List Move)) (s8 : (List (List Move))) (s9 : Int) (s10 : Int) (s11 : (List Move)) (s12 : Int) (s13 : Int) (s14 : (List (List Move))) : Option R :=
  f32.s1' L N k1_e2 k1_r rec1 s7 s8 s9 s10 s11 s12 s13 s14
def f32.l1 {R : Type} (L N : Nat) (k1_e2 : (List (List Move)) → Int → Int → (List (List Move)) → Option R) (k1_r : Bool → (List (List Move)) → Int → Int → (List (List Move)) → Option R) : Nat → (List Move) → (List (List Move)) → Int → Int → (List Move) → Int → Int → (List (List Move)) → Option R
  | 0, _, _, _, _, _, _, _, _ => none
  | n + 1, s7, s8, s9, s10, s11, s12, s13, s14 => f32.s1 L N k1_e2 k1_r (f32.l1 L N k1_e2 k1_r n) s7 s8 s9 s10 s11 s12 s13 s14
def f32.T1 (s7 : (List Move)) (s8 : (List (List Move))) (s9 : Int) (s10 : Int) (s11 : (List Move)) (s12 : Int) (s13 : Int) (s14 : (List (List Move))) : T := mkT 64 [(1, (.ptr 1001 0)), (4, (.tv (.sl (.st 0)) s7)), (18, (.tv (.sl (.sl (.st 0))) s8)), (19, (.tv i64 s9)), (20, (.tv i64 s10)), (24, (.tv (.sl (.st 0)) s11)), (25, (.tv i64 s12)), (26, (.tv i64 s13))]
def f32.H1 (s7 : (List Move)) (s8 : (List (List Move))) (s9 : Int) (s10 : Int) (s11 : (List Move)) (s12 : Int) (s13 : Int) (s14 : (List (List Move))) : H := [(1001, (.box [(.tv (.sl (.sl (.st 0))) s14)]))]
def f32.T1_e2 (z15 : (List (List Move))) (z16 : Int) (z17 : Int) (z18 : (List (List Move))) : T := mkT 64 [(1, (.ptr 1001 0)), (18, (.tv (.sl (.sl (.st 0))) z15)), (19, (.tv i64 z16)), (20, (.tv i64 z17))]
def f32.H1_e2 (z15 : (List (List Move))) (z16 : Int) (z17 : Int) (z18 : (List (List Move))) : H := [(1001, (.box [(.tv (.sl (.sl (.st 0))) z18)]))]
def f32.T1_r (z30 : Bool) (z31 : (List (List Move))) (z32 : Int) (z33 : Int) (z34 : (List (List Move))) : T := mkT 64 [(1, (.ptr 1001 0)), (2, (.tv .bool z30)), (18, (.tv (.sl (.sl (.st 0))) z31)), (19, (.tv i64 z32)), (20, (.tv i64 z33))]
def f32.H1_r (z30 : Bool) (z31 : (List (List Move))) (z32 : Int) (z33 : Int) (z34 : (List (List Move))) : H := [(1001, (.box [(.tv (.sl (.sl (.st 0))) z34)]))]
def f32.p1_e2' {R : Type} (L N : Nat) (k0_e0 : Option R) (k0_r : Bool → Option R) (rec0 : (List (List Move)) → Int → Int → (List (List Move)) → Option R) (z15 : (List (List Move))) (z16 : Int) (z17 : Int) (z18 : (List (List Move))) : Option R :=
  rec0 z15 z16 (wi (z17 + (1 : Int))) z18
def f32.p1_e2 {R : Type} (L N : Nat) (k0_e0 : Option R) (k0_r : Bool → Option R) (rec0 : (List (List Move)) → Int → Int → (List (List Move)) → Option R) (z15 : (List (List Move))) (z16 : Int) (z17 : Int) (z18 : (List (List Move))) : Option R :=
  f32.p1_e2' L N k0_e0 k0_r rec0 z15 z16 z17 z18
def f32.p1_r' {R : Type} (L N : Nat) (k0_e0 : Option R) (k0_r : Bool → Option R) (rec0 : (List (List Move)) → Int → Int → (List (List Move)) → Option R) (z30 : Bool) (z31 : (List (List Move))) (z32 : Int) (z33 : Int) (z34 : (List (List Move))) : Option R :=
  k0_r z30
def f32.p1_r {R : Type} (L N : Nat) (k0_e0 : Option R) (k0_r : Bool → Option R) (rec0 : (List (List Move)) → Int → Int → (List (List Move)) → Option R) (z30 : Bool) (z31 : (List (List Move))) (z32 : Int) (z33 : Int) (z34 : (List (List Move))) : Option R :=
  f32.p1_r' L N k0_e0 k0_r rec0 z30 z31 z32 z33 z34
def f32.s0' {R : Type} (L N : Nat) (k0_e0 : Option R) (k0_r : Bool → Option R) (rec0 : (List (List Move)) → Int → Int → (List (List Move)) → Option R) (w1 : (List Move) → (List (List Move)) → Int → Int → (List Move) → Int → Int → (List (List Move)) → Option R) (s3 : (List (List Move))) (s4 : Int) (s5 : Int) (s6 : (List (List Move))) : Option R :=
  bif (decide (s5 < s4)) then
    bif (decide (0 ≤ s5) && decide (s5 < (s3.length : Int))) then
      w1 (listAt s3 [] s5.toNat) s3 s4 s5 (listAt s3 [] s5.toNat) ((listAt s3 [] s5.toNat).length : Int) (0 : Int) s6
    else none
  else k0_e0
def f32.s0 {R : Type} (L N : Nat) (k0_e0 : Option R) (k0_r : Bool → Option R) (rec0 : (List (List Move)) → Int → Int → (List (List Move)) → Option R) (s3 : (List (List Move))) (s4 : Int) (s5 : Int) (s6 : (List (List Move))) : Option R :=
  f32.s0' L N k0_e0 k0_r rec0 (fun s7 s8 s9 s10 s11 s12 s13 s14 => f32.l1 L N (fun z15 z16 z17 z18 => f32.p1_e2 L N k0_e0 k0_r rec0 z15 z16 z17 z18) (fun z30 z31 z32 z33 z34 => f32.p1_r L N k0_e0 k0_r rec0 z30 z31 z32 z33 z34) L s7 s8 s9 s10 s11 s12 s13 s14) s3 s4 s5 s6
def f32.l0 {R : Type} (L N : Nat) (k0_e0 : Option R) (k0_r : Bool → Option R) : Nat → (List (List Move)) → Int → Int → (List (List Move)) → Option R
  | 0, _, _, _, _ => none
  | n + 1, s3, s4, s5, s6 => f32.s0 L N k0_e0 k0_r (f32.l0 L N k0_e0 k0_r n) s3 s4 s5 s6
def f32.T0 (s3 : (List (List Move))) (s4 : Int) (s5 : Int) (s6 : (List (List Move))) : T := mkT 64 [(1, (.ptr 1001 0)), (18, (.tv (.sl (.sl (.st 0))) s3)), (19, (.tv i64 s4)), (20, (.tv i64 s5))]
def f32.H0 (s3 : (List (List Move))) (s4 : Int) (s5 : Int) (s6 : (List (List Move))) : H := [(1001, (.box [(.tv (.sl (.sl (.st 0))) s6)]))]
def f32.T0_e0 : T := mkT 64 []
def f32.H0_e0 : H := []
def f32.T0_r (z43 : Bool) : T := mkT 64 [(2, (.tv .bool z43))]
def f32.H0_r (z43 : Bool) : H := []
def f32.p0_e0' {R : Type} (L N : Nat) (k : Bool → Option R) : Option R :=
  k true
def f32.p0_e0 {R : Type} (L N : Nat) (k : Bool → Option R) : Option R :=
  f32.p0_e0' L N k
def f32.p0_r' {R : Type} (L N : Nat) (k : Bool → Option R) (z43 : Bool) : Option R :=
  k z43
def f32.p0_r {R : Type} (L N : Nat) (k : Bool → Option R) (z43 : Bool) : Option R :=
  f32.p0_r' L N k z43
def f32.j0' {R : Type} (L N : Nat) (k : Bool → Option R) (w0 : (List (List Move)) → Int → Int → (List (List Move)) → Option R) (v2 : (List (List Move))) : Option R :=
  w0 v2 (v2.length : Int) (0 : Int) v2
def f32.b' {R : Type} (L N : Nat) (k : Bool → Option R) (w0 : (List (List Move)) → Int → Int → (List (List Move)) → Option R) (x0 : Graph) : Option R :=
  bif (decide ((x0.moves.length : Int) < (1 : Int))) then
    k false
  else bif (decide ((x0.moves.length : Int) > (60 : Int))) then
    k false
  else f32.j0' L N k w0 x0.moves
def f32.b {R : Type} (L N : Nat) (k : Bool → Option R) (x0 : Graph) : Option R :=
  f32.b' L N k (fun s3 s4 s5 s6 => f32.l0 L N (f32.p0_e0 L N k) (fun z43 => f32.p0_r L N k z43) L s3 s4 s5 s6) x0
def f32 (L N : Nat) (x0 : Graph) : Option (Bool) := f32.b L N some x0
def f32.ent (L N : Nat) (args : List AV) (vw : View) (site : Nat) : Ans := match roD [(.st 2)] vw args with
  | some d => ⟨Bool, f32 L N d.1, fun y => ((.tv .bool y), [], [])⟩
  | none => Ans.no
noncomputable def E32 (L N : Nat) : Env := { P := Try.prog, ty := tyOf, Φ := (Φ73 L N), inl := inlT, live := lives, liveX := livesX, L := L, dp := none, prom := promT, heal := healT, ren := renT }
noncomputable def f32.c0 : Code := loopAt 0 (codeOf Try.f32)
noncomputable def f32.c1 : Code := loopAt 2 f32.c0
theorem f32.s1_pre {R : Type} (L N : Nat) (κ : Ex → T → H → Option R) (rec : T → H → Option R) (s7 : (List Move)) (s8 : (List (List Move))) (s9 : Int) (s10 : Int) (s11 : (List Move)) (s12 : Int) (s13 : Int) (s14 : (List (List Move))) :
    evRd (E32 L N) (evCallI (E32 L N) 1 2000) 1000 32 64 2 f32.c1 κ rec (f32.T1 s7 s8 s9 s10 s11 s12 s13 s14) (f32.H1 s7 s8 s9 s10 s11 s12 s13 s14)
    = f32.s1' L N (fun z15 z16 z17 z18 => κ (.exit 2) (f32.T1_e2 z15 z16 z17 z18) (f32.H1_e2 z15 z16 z17 z18)) (fun z30 z31 z32 z33 z34 => κ .ret (f32.T1_r z30 z31 z32 z33 z34) (f32.H1_r z30 z31 z32 z33 z34)) (fun s7 s8 s9 s10 s11 s12 s13 s14 => rec (f32.T1 s7 s8 s9 s10 s11 s12 s13 s14) (f32.H1 s7 s8 s9 s10 s11 s12 s13 s14)) s7 s8 s9 s10 s11 s12 s13 s14 := by kernel_rfl
theorem f32.s1_eq {R : Type} (L N : Nat) (κ : Ex → T → H → Option R) (rec : T → H → Option R) (s7 : (List Move)) (s8 : (List (List Move))) (s9 : Int) (s10 : Int) (s11 : (List Move)) (s12 : Int) (s13 : Int) (s14 : (List (List Move))) :
    evRd (E32 L N) (evCallI (E32 L N) 1 2000) 1000 32 64 2 f32.c1 κ rec (f32.T1 s7 s8 s9 s10 s11 s12 s13 s14) (f32.H1 s7 s8 s9 s10 s11 s12 s13 s14)
    = f32.s1 L N (fun z15 z16 z17 z18 => κ (.exit 2) (f32.T1_e2 z15 z16 z17 z18) (f32.H1_e2 z15 z16 z17 z18)) (fun z30 z31 z32 z33 z34 => κ .ret (f32.T1_r z30 z31 z32 z33 z34) (f32.H1_r z30 z31 z32 z33 z34)) (fun s7 s8 s9 s10 s11 s12 s13 s14 => rec (f32.T1 s7 s8 s9 s10 s11 s12 s13 s14) (f32.H1 s7 s8 s9 s10 s11 s12 s13 s14)) s7 s8 s9 s10 s11 s12 s13 s14 := by
  rw [f32.s1_pre]
  unfold f32.s1
  rfl
theorem f32.l1_eq {R : Type} (L N : Nat) (κ : Ex → T → H → Option R) : ∀ (n : Nat) (s7 : (List Move)) (s8 : (List (List Move))) (s9 : Int) (s10 : Int) (s11 : (List Move)) (s12 : Int) (s13 : Int) (s14 : (List (List Move))),
    evLp (E32 L N) (evCallI (E32 L N) 1 2000) 1000 32 64 2 f32.c1 κ n (f32.T1 s7 s8 s9 s10 s11 s12 s13 s14) (f32.H1 s7 s8 s9 s10 s11 s12 s13 s14)
    = f32.l1 L N (fun z15 z16 z17 z18 => κ (.exit 2) (f32.T1_e2 z15 z16 z17 z18) (f32.H1_e2 z15 z16 z17 z18)) (fun z30 z31 z32 z33 z34 => κ .ret (f32.T1_r z30 z31 z32 z33 z34) (f32.H1_r z30 z31 z32 z33 z34)) n s7 s8 s9 s10 s11 s12 s13 s14 := by
  intro n
  induction n with
  | zero => intros; rfl
  | succ n ih =>
    intro s7 s8 s9 s10 s11 s12 s13 s14
    rw [evLp_succ, f32.s1_eq]
    simp only [ih]
    rfl
theorem f32.p1_e2_pre {R : Type} (L N : Nat) (κ : Ex → T → H → Option R) (rec : T → H → Option R) (z15 : (List (List Move))) (z16 : Int) (z17 : Int) (z18 : (List (List Move))) :
    (contAt (E32 L N) (evCallI (E32 L N) 1 2000) 1000 32 64 2 f32.c0 (stepK (outK (keepT 64 ((E32 L N).liveX 32 0).1) (keepH 1000 ((E32 L N).liveX 32 0).2) κ) fun t h => rec (backK 1000 64 ((E32 L N).live 32 0).1 ((E32 L N).live 32 0).2 ((E32 L N).heal 32 0) ((E32 L N).ren 32 0) t h).1 (backK 1000 64 ((E32 L N).live 32 0).1 ((E32 L N).live 32 0).2 ((E32 L N).heal 32 0) ((E32 L N).ren 32 0) t h).2)) (.exit 2) (f32.T1_e2 z15 z16 z17 z18) (f32.H1_e2 z15 z16 z17 z18)
    = f32.p1_e2' L N (κ (.exit 0) f32.T0_e0 f32.H0_e0) (fun z43 => κ .ret (f32.T0_r z43) (f32.H0_r z43)) (fun s3 s4 s5 s6 => rec (f32.T0 s3 s4 s5 s6) (f32.H0 s3 s4 s5 s6)) z15 z16 z17 z18 := by kernel_rfl
theorem f32.p1_e2_eq {R : Type} (L N : Nat) (κ : Ex → T → H → Option R) (rec : T → H → Option R) (z15 : (List (List Move))) (z16 : Int) (z17 : Int) (z18 : (List (List Move))) :
    (contAt (E32 L N) (evCallI (E32 L N) 1 2000) 1000 32 64 2 f32.c0 (stepK (outK (keepT 64 ((E32 L N).liveX 32 0).1) (keepH 1000 ((E32 L N).liveX 32 0).2) κ) fun t h => rec (backK 1000 64 ((E32 L N).live 32 0).1 ((E32 L N).live 32 0).2 ((E32 L N).heal 32 0) ((E32 L N).ren 32 0) t h).1 (backK 1000 64 ((E32 L N).live 32 0).1 ((E32 L N).live 32 0).2 ((E32 L N).heal 32 0) ((E32 L N).ren 32 0) t h).2)) (.exit 2) (f32.T1_e2 z15 z16 z17 z18) (f32.H1_e2 z15 z16 z17 z18)
    = f32.p1_e2 L N (κ (.exit 0) f32.T0_e0 f32.H0_e0) (fun z43 => κ .ret (f32.T0_r z43) (f32.H0_r z43)) (fun s3 s4 s5 s6 => rec (f32.T0 s3 s4 s5 s6) (f32.H0 s3 s4 s5 s6)) z15 z16 z17 z18 := by
  rw [f32.p1_e2_pre]
  unfold f32.p1_e2
  rfl
theorem f32.p1_r_pre {R : Type} (L N : Nat) (κ : Ex → T → H → Option R) (rec : T → H → Option R) (z30 : Bool) (z31 : (List (List Move))) (z32 : Int) (z33 : Int) (z34 : (List (List Move))) :
    (contAt (E32 L N) (evCallI (E32 L N) 1 2000) 1000 32 64 2 f32.c0 (stepK (outK (keepT 64 ((E32 L N).liveX 32 0).1) (keepH 1000 ((E32 L N).liveX 32 0).2) κ) fun t h => rec (backK 1000 64 ((E32 L N).live 32 0).1 ((E32 L N).live 32 0).2 ((E32 L N).heal 32 0) ((E32 L N).ren 32 0) t h).1 (backK 1000 64 ((E32 L N).live 32 0).1 ((E32 L N).live 32 0).2 ((E32 L N).heal 32 0) ((E32 L N).ren 32 0) t h).2)) .ret (f32.T1_r z30 z31 z32 z33 z34) (f32.H1_r z30 z31 z32 z33 z34)
    = f32.p1_r' L N (κ (.exit 0) f32.T0_e0 f32.H0_e0) (fun z43 => κ .ret (f32.T0_r z43) (f32.H0_r z43)) (fun s3 s4 s5 s6 => rec (f32.T0 s3 s4 s5 s6) (f32.H0 s3 s4 s5 s6)) z30 z31 z32 z33 z34 := by kernel_rfl
theorem f32.p1_r_eq {R : Type} (L N : Nat) (κ : Ex → T → H → Option R) (rec : T → H → Option R) (z30 : Bool) (z31 : (List (List Move))) (z32 : Int) (z33 : Int) (z34 : (List (List Move))) :
    (contAt (E32 L N) (evCallI (E32 L N) 1 2000) 1000 32 64 2 f32.c0 (stepK (outK (keepT 64 ((E32 L N).liveX 32 0).1) (keepH 1000 ((E32 L N).liveX 32 0).2) κ) fun t h => rec (backK 1000 64 ((E32 L N).live 32 0).1 ((E32 L N).live 32 0).2 ((E32 L N).heal 32 0) ((E32 L N).ren 32 0) t h).1 (backK 1000 64 ((E32 L N).live 32 0).1 ((E32 L N).live 32 0).2 ((E32 L N).heal 32 0) ((E32 L N).ren 32 0) t h).2)) .ret (f32.T1_r z30 z31 z32 z33 z34) (f32.H1_r z30 z31 z32 z33 z34)
    = f32.p1_r L N (κ (.exit 0) f32.T0_e0 f32.H0_e0) (fun z43 => κ .ret (f32.T0_r z43) (f32.H0_r z43)) (fun s3 s4 s5 s6 => rec (f32.T0 s3 s4 s5 s6) (f32.H0 s3 s4 s5 s6)) z30 z31 z32 z33 z34 := by
  rw [f32.p1_r_pre]
  unfold f32.p1_r
  rfl
theorem f32.s0_pre {R : Type} (L N : Nat) (κ : Ex → T → H → Option R) (rec : T → H → Option R) (s3 : (List (List Move))) (s4 : Int) (s5 : Int) (s6 : (List (List Move))) :
    evRd (E32 L N) (evCallI (E32 L N) 1 2000) 1000 32 64 0 f32.c0 κ rec (f32.T0 s3 s4 s5 s6) (f32.H0 s3 s4 s5 s6)
    = f32.s0' L N (κ (.exit 0) f32.T0_e0 f32.H0_e0) (fun z43 => κ .ret (f32.T0_r z43) (f32.H0_r z43)) (fun s3 s4 s5 s6 => rec (f32.T0 s3 s4 s5 s6) (f32.H0 s3 s4 s5 s6)) (fun s7 s8 s9 s10 s11 s12 s13 s14 => evLp (E32 L N) (evCallI (E32 L N) 1 2000) 1000 32 64 2 f32.c1 (contAt (E32 L N) (evCallI (E32 L N) 1 2000) 1000 32 64 2 f32.c0 (stepK (outK (keepT 64 ((E32 L N).liveX 32 0).1) (keepH 1000 ((E32 L N).liveX 32 0).2) κ) fun t h => rec (backK 1000 64 ((E32 L N).live 32 0).1 ((E32 L N).live 32 0).2 ((E32 L N).heal 32 0) ((E32 L N).ren 32 0) t h).1 (backK 1000 64 ((E32 L N).live 32 0).1 ((E32 L N).live 32 0).2 ((E32 L N).heal 32 0) ((E32 L N).ren 32 0) t h).2)) L (f32.T1 s7 s8 s9 s10 s11 s12 s13 s14) (f32.H1 s7 s8 s9 s10 s11 s12 s13 s14)) s3 s4 s5 s6 := by kernel_rfl
theorem f32.s0_eq {R : Type} (L N : Nat) (κ : Ex → T → H → Option R) (rec : T → H → Option R) (s3 : (List (List Move))) (s4 : Int) (s5 : Int) (s6 : (List (List Move))) :
    evRd (E32 L N) (evCallI (E32 L N) 1 2000) 1000 32 64 0 f32.c0 κ rec (f32.T0 s3 s4 s5 s6) (f32.H0 s3 s4 s5 s6)
    = f32.s0 L N (κ (.exit 0) f32.T0_e0 f32.H0_e0) (fun z43 => κ .ret (f32.T0_r z43) (f32.H0_r z43)) (fun s3 s4 s5 s6 => rec (f32.T0 s3 s4 s5 s6) (f32.H0 s3 s4 s5 s6)) s3 s4 s5 s6 := by
  rw [f32.s0_pre]
  unfold f32.s0
  simp only [f32.l1_eq, f32.p1_e2_eq, f32.p1_r_eq]
theorem f32.l0_eq {R : Type} (L N : Nat) (κ : Ex → T → H → Option R) : ∀ (n : Nat) (s3 : (List (List Move))) (s4 : Int) (s5 : Int) (s6 : (List (List Move))),
    evLp (E32 L N) (evCallI (E32 L N) 1 2000) 1000 32 64 0 f32.c0 κ n (f32.T0 s3 s4 s5 s6) (f32.H0 s3 s4 s5 s6)
    = f32.l0 L N (κ (.exit 0) f32.T0_e0 f32.H0_e0) (fun z43 => κ .ret (f32.T0_r z43) (f32.H0_r z43)) n s3 s4 s5 s6 := by
  intro n
  induction n with
  | zero => intros; rfl
  | succ n ih =>
    intro s3 s4 s5 s6
    rw [evLp_succ, f32.s0_eq]
    simp only [ih]
    rfl
theorem f32.p0_e0_pre {R : Type} (L N : Nat) (κ : AV → Option R) :
    (contAt (E32 L N) (evCallI (E32 L N) 1 2000) 1000 32 64 0 (codeOf Try.f32) (finK (E32 L N) 1000 Try.f32 (finC (.one .bool) κ))) (.exit 0) f32.T0_e0 f32.H0_e0
    = f32.p0_e0' L N (fun a0 => κ (.tv .bool a0)) := by kernel_rfl
theorem f32.p0_e0_eq {R : Type} (L N : Nat) (κ : AV → Option R) :
    (contAt (E32 L N) (evCallI (E32 L N) 1 2000) 1000 32 64 0 (codeOf Try.f32) (finK (E32 L N) 1000 Try.f32 (finC (.one .bool) κ))) (.exit 0) f32.T0_e0 f32.H0_e0
    = f32.p0_e0 L N (fun a0 => κ (.tv .bool a0)) := by
  rw [f32.p0_e0_pre]
  unfold f32.p0_e0
  rfl
theorem f32.p0_r_pre {R : Type} (L N : Nat) (κ : AV → Option R) (z43 : Bool) :
    (contAt (E32 L N) (evCallI (E32 L N) 1 2000) 1000 32 64 0 (codeOf Try.f32) (finK (E32 L N) 1000 Try.f32 (finC (.one .bool) κ))) .ret (f32.T0_r z43) (f32.H0_r z43)
    = f32.p0_r' L N (fun a0 => κ (.tv .bool a0)) z43 := by kernel_rfl
theorem f32.p0_r_eq {R : Type} (L N : Nat) (κ : AV → Option R) (z43 : Bool) :
    (contAt (E32 L N) (evCallI (E32 L N) 1 2000) 1000 32 64 0 (codeOf Try.f32) (finK (E32 L N) 1000 Try.f32 (finC (.one .bool) κ))) .ret (f32.T0_r z43) (f32.H0_r z43)
    = f32.p0_r L N (fun a0 => κ (.tv .bool a0)) z43 := by
  rw [f32.p0_r_pre]
  unfold f32.p0_r
  rfl
theorem f32.b_pre {R : Type} (L N : Nat) (κ : AV → Option R) (x0 : Graph) :
    evBody (E32 L N) (evCallI (E32 L N) 1 2000) 1000 32 Try.f32 [(.tv (.st 2) x0)] [] [] (finC (.one .bool) κ)
    = f32.b' L N (fun a0 => κ (.tv .bool a0)) (fun s3 s4 s5 s6 => evLp (E32 L N) (evCallI (E32 L N) 1 2000) 1000 32 64 0 f32.c0 (contAt (E32 L N) (evCallI (E32 L N) 1 2000) 1000 32 64 0 (codeOf Try.f32) (finK (E32 L N) 1000 Try.f32 (finC (.one .bool) κ))) L (f32.T0 s3 s4 s5 s6) (f32.H0 s3 s4 s5 s6)) x0 := by kernel_rfl
theorem f32.b_eq {R : Type} (L N : Nat) (κ : AV → Option R) (x0 : Graph) :
    evBody (E32 L N) (evCallI (E32 L N) 1 2000) 1000 32 Try.f32 [(.tv (.st 2) x0)] [] [] (finC (.one .bool) κ)
    = f32.b L N (fun a0 => κ (.tv .bool a0)) x0 := by
  rw [f32.b_pre]
  unfold f32.b
  simp only [f32.l0_eq, f32.p0_e0_eq, f32.p0_r_eq]
theorem f32.s1'_nat {R R' : Type} (j : R → Option R') (L N : Nat) (k1_e2 : (List (List Move)) → Int → Int → (List (List Move)) → Option R) (k1_r : Bool → (List (List Move)) → Int → Int → (List (List Move)) → Option R) (rec1 : (List Move) → (List (List Move)) → Int → Int → (List Move) → Int → Int → (List (List Move)) → Option R) (s7 : (List Move)) (s8 : (List (List Move))) (s9 : Int) (s10 : Int) (s11 : (List Move)) (s12 : Int) (s13 : Int) (s14 : (List (List Move))) :
    f32.s1' L N (fun a0 a1 a2 a3 => (k1_e2 a0 a1 a2 a3).bind j) (fun a0 a1 a2 a3 a4 => (k1_r a0 a1 a2 a3 a4).bind j) (fun a0 a1 a2 a3 a4 a5 a6 a7 => (rec1 a0 a1 a2 a3 a4 a5 a6 a7).bind j) s7 s8 s9 s10 s11 s12 s13 s14 = (f32.s1' L N k1_e2 k1_r rec1 s7 s8 s9 s10 s11 s12 s13 s14).bind j := by
  unfold f32.s1'
  repeat' (first | (with_reducible refine cond_nat ?_ ?_) | (with_reducible refine bind_nat fun _ => ?_) | rfl)
theorem f32.s1_nat {R R' : Type} (j : R → Option R') (L N : Nat) (k1_e2 : (List (List Move)) → Int → Int → (List (List Move)) → Option R) (k1_r : Bool → (List (List Move)) → Int → Int → (List (List Move)) → Option R) (rec1 : (List Move) → (List (List Move)) → Int → Int → (List Move) → Int → Int → (List (List Move)) → Option R) (s7 : (List Move)) (s8 : (List (List Move))) (s9 : Int) (s10 : Int) (s11 : (List Move)) (s12 : Int) (s13 : Int) (s14 : (List (List Move))) :
    f32.s1 L N (fun a0 a1 a2 a3 => (k1_e2 a0 a1 a2 a3).bind j) (fun a0 a1 a2 a3 a4 => (k1_r a0 a1 a2 a3 a4).bind j) (fun a0 a1 a2 a3 a4 a5 a6 a7 => (rec1 a0 a1 a2 a3 a4 a5 a6 a7).bind j) s7 s8 s9 s10 s11 s12 s13 s14 = (f32.s1 L N k1_e2 k1_r rec1 s7 s8 s9 s10 s11 s12 s13 s14).bind j := by
  unfold f32.s1
  exact f32.s1'_nat ..
theorem f32.l1_nat {R R' : Type} (j : R → Option R') (L N : Nat) (k1_e2 : (List (List Move)) → Int → Int → (List (List Move)) → Option R) (k1_r : Bool → (List (List Move)) → Int → Int → (List (List Move)) → Option R) : ∀ (n : Nat) (s7 : (List Move)) (s8 : (List (List Move))) (s9 : Int) (s10 : Int) (s11 : (List Move)) (s12 : Int) (s13 : Int) (s14 : (List (List Move))),
    f32.l1 L N (fun a0 a1 a2 a3 => (k1_e2 a0 a1 a2 a3).bind j) (fun a0 a1 a2 a3 a4 => (k1_r a0 a1 a2 a3 a4).bind j) n s7 s8 s9 s10 s11 s12 s13 s14 = (f32.l1 L N k1_e2 k1_r n s7 s8 s9 s10 s11 s12 s13 s14).bind j := by
  intro n
  induction n with
  | zero => intros; rfl
  | succ n ih =>
    intro s7 s8 s9 s10 s11 s12 s13 s14
    show f32.s1 L N (fun a0 a1 a2 a3 => (k1_e2 a0 a1 a2 a3).bind j) (fun a0 a1 a2 a3 a4 => (k1_r a0 a1 a2 a3 a4).bind j) (f32.l1 L N (fun a0 a1 a2 a3 => (k1_e2 a0 a1 a2 a3).bind j) (fun a0 a1 a2 a3 a4 => (k1_r a0 a1 a2 a3 a4).bind j) n) s7 s8 s9 s10 s11 s12 s13 s14 = _
    rw [show f32.l1 L N (fun a0 a1 a2 a3 => (k1_e2 a0 a1 a2 a3).bind j) (fun a0 a1 a2 a3 a4 => (k1_r a0 a1 a2 a3 a4).bind j) n = (fun s7 s8 s9 s10 s11 s12 s13 s14 => (f32.l1 L N k1_e2 k1_r n s7 s8 s9 s10 s11 s12 s13 s14).bind j) from funext fun s7 => funext fun s8 => funext fun s9 => funext fun s10 => funext fun s11 => funext fun s12 => funext fun s13 => funext fun s14 => ih s7 s8 s9 s10 s11 s12 s13 s14]
    exact f32.s1_nat ..
theorem f32.p1_e2'_nat {R R' : Type} (j : R → Option R') (L N : Nat) (k0_e0 : Option R) (k0_r : Bool → Option R) (rec0 : (List (List Move)) → Int → Int → (List (List Move)) → Option R) (z15 : (List (List Move))) (z16 : Int) (z17 : Int) (z18 : (List (List Move))) :
    f32.p1_e2' L N (k0_e0.bind j) (fun a0 => (k0_r a0).bind j) (fun a0 a1 a2 a3 => (rec0 a0 a1 a2 a3).bind j) z15 z16 z17 z18 = (f32.p1_e2' L N k0_e0 k0_r rec0 z15 z16 z17 z18).bind j := by
  unfold f32.p1_e2'
  repeat' (first | (with_reducible refine cond_nat ?_ ?_) | (with_reducible refine bind_nat fun _ => ?_) | rfl)
theorem f32.p1_e2_nat {R R' : Type} (j : R → Option R') (L N : Nat) (k0_e0 : Option R) (k0_r : Bool → Option R) (rec0 : (List (List Move)) → Int → Int → (List (List Move)) → Option R) (z15 : (List (List Move))) (z16 : Int) (z17 : Int) (z18 : (List (List Move))) :
    f32.p1_e2 L N (k0_e0.bind j) (fun a0 => (k0_r a0).bind j) (fun a0 a1 a2 a3 => (rec0 a0 a1 a2 a3).bind j) z15 z16 z17 z18 = (f32.p1_e2 L N k0_e0 k0_r rec0 z15 z16 z17 z18).bind j := by
  unfold f32.p1_e2
  exact f32.p1_e2'_nat ..
theorem f32.p1_r'_nat {R R' : Type} (j : R → Option R') (L N : Nat) (k0_e0 : Option R) (k0_r : Bool → Option R) (rec0 : (List (List Move)) → Int → Int → (List (List Move)) → Option R) (z30 : Bool) (z31 : (List (List Move))) (z32 : Int) (z33 : Int) (z34 : (List (List Move))) :
    f32.p1_r' L N (k0_e0.bind j) (fun a0 => (k0_r a0).bind j) (fun a0 a1 a2 a3 => (rec0 a0 a1 a2 a3).bind j) z30 z31 z32 z33 z34 = (f32.p1_r' L N k0_e0 k0_r rec0 z30 z31 z32 z33 z34).bind j := by
  unfold f32.p1_r'
  repeat' (first | (with_reducible refine cond_nat ?_ ?_) | (with_reducible refine bind_nat fun _ => ?_) | rfl)
theorem f32.p1_r_nat {R R' : Type} (j : R → Option R') (L N : Nat) (k0_e0 : Option R) (k0_r : Bool → Option R) (rec0 : (List (List Move)) → Int → Int → (List (List Move)) → Option R) (z30 : Bool) (z31 : (List (List Move))) (z32 : Int) (z33 : Int) (z34 : (List (List Move))) :
    f32.p1_r L N (k0_e0.bind j) (fun a0 => (k0_r a0).bind j) (fun a0 a1 a2 a3 => (rec0 a0 a1 a2 a3).bind j) z30 z31 z32 z33 z34 = (f32.p1_r L N k0_e0 k0_r rec0 z30 z31 z32 z33 z34).bind j := by
  unfold f32.p1_r
  exact f32.p1_r'_nat ..
theorem f32.s0'_nat {R R' : Type} (j : R → Option R') (L N : Nat) (k0_e0 : Option R) (k0_r : Bool → Option R) (rec0 : (List (List Move)) → Int → Int → (List (List Move)) → Option R) (w1 : (List Move) → (List (List Move)) → Int → Int → (List Move) → Int → Int → (List (List Move)) → Option R) (s3 : (List (List Move))) (s4 : Int) (s5 : Int) (s6 : (List (List Move))) :
    f32.s0' L N (k0_e0.bind j) (fun a0 => (k0_r a0).bind j) (fun a0 a1 a2 a3 => (rec0 a0 a1 a2 a3).bind j) (fun a0 a1 a2 a3 a4 a5 a6 a7 => (w1 a0 a1 a2 a3 a4 a5 a6 a7).bind j) s3 s4 s5 s6 = (f32.s0' L N k0_e0 k0_r rec0 w1 s3 s4 s5 s6).bind j := by
  unfold f32.s0'
  repeat' (first | (with_reducible refine cond_nat ?_ ?_) | (with_reducible refine bind_nat fun _ => ?_) | rfl)
theorem f32.s0_nat {R R' : Type} (j : R → Option R') (L N : Nat) (k0_e0 : Option R) (k0_r : Bool → Option R) (rec0 : (List (List Move)) → Int → Int → (List (List Move)) → Option R) (s3 : (List (List Move))) (s4 : Int) (s5 : Int) (s6 : (List (List Move))) :
    f32.s0 L N (k0_e0.bind j) (fun a0 => (k0_r a0).bind j) (fun a0 a1 a2 a3 => (rec0 a0 a1 a2 a3).bind j) s3 s4 s5 s6 = (f32.s0 L N k0_e0 k0_r rec0 s3 s4 s5 s6).bind j := by
  unfold f32.s0
  simp only [f32.l1_nat, f32.p1_e2_nat, f32.p1_r_nat]
  exact f32.s0'_nat ..
theorem f32.l0_nat {R R' : Type} (j : R → Option R') (L N : Nat) (k0_e0 : Option R) (k0_r : Bool → Option R) : ∀ (n : Nat) (s3 : (List (List Move))) (s4 : Int) (s5 : Int) (s6 : (List (List Move))),
    f32.l0 L N (k0_e0.bind j) (fun a0 => (k0_r a0).bind j) n s3 s4 s5 s6 = (f32.l0 L N k0_e0 k0_r n s3 s4 s5 s6).bind j := by
  intro n
  induction n with
  | zero => intros; rfl
  | succ n ih =>
    intro s3 s4 s5 s6
    show f32.s0 L N (k0_e0.bind j) (fun a0 => (k0_r a0).bind j) (f32.l0 L N (k0_e0.bind j) (fun a0 => (k0_r a0).bind j) n) s3 s4 s5 s6 = _
    rw [show f32.l0 L N (k0_e0.bind j) (fun a0 => (k0_r a0).bind j) n = (fun s3 s4 s5 s6 => (f32.l0 L N k0_e0 k0_r n s3 s4 s5 s6).bind j) from funext fun s3 => funext fun s4 => funext fun s5 => funext fun s6 => ih s3 s4 s5 s6]
    exact f32.s0_nat ..
theorem f32.p0_e0'_nat {R R' : Type} (j : R → Option R') (L N : Nat) (k : Bool → Option R) :
    f32.p0_e0' L N (fun a0 => (k a0).bind j) = (f32.p0_e0' L N k).bind j := by
  unfold f32.p0_e0'
  repeat' (first | (with_reducible refine cond_nat ?_ ?_) | (with_reducible refine bind_nat fun _ => ?_) | rfl)
theorem f32.p0_e0_nat {R R' : Type} (j : R → Option R') (L N : Nat) (k : Bool → Option R) :
    f32.p0_e0 L N (fun a0 => (k a0).bind j) = (f32.p0_e0 L N k).bind j := by
  unfold f32.p0_e0
  exact f32.p0_e0'_nat ..
theorem f32.p0_r'_nat {R R' : Type} (j : R → Option R') (L N : Nat) (k : Bool → Option R) (z43 : Bool) :
    f32.p0_r' L N (fun a0 => (k a0).bind j) z43 = (f32.p0_r' L N k z43).bind j := by
  unfold f32.p0_r'
  repeat' (first | (with_reducible refine cond_nat ?_ ?_) | (with_reducible refine bind_nat fun _ => ?_) | rfl)
theorem f32.p0_r_nat {R R' : Type} (j : R → Option R') (L N : Nat) (k : Bool → Option R) (z43 : Bool) :
    f32.p0_r L N (fun a0 => (k a0).bind j) z43 = (f32.p0_r L N k z43).bind j := by
  unfold f32.p0_r
  exact f32.p0_r'_nat ..
theorem f32.j0'_nat {R R' : Type} (j : R → Option R') (L N : Nat) (k : Bool → Option R) (w0 : (List (List Move)) → Int → Int → (List (List Move)) → Option R) (v2 : (List (List Move))) :
    f32.j0' L N (fun a0 => (k a0).bind j) (fun a0 a1 a2 a3 => (w0 a0 a1 a2 a3).bind j) v2 = (f32.j0' L N k w0 v2).bind j := by
  unfold f32.j0'
  repeat' (first | (with_reducible refine cond_nat ?_ ?_) | (with_reducible refine bind_nat fun _ => ?_) | rfl)
theorem f32.b'_nat {R R' : Type} (j : R → Option R') (L N : Nat) (k : Bool → Option R) (w0 : (List (List Move)) → Int → Int → (List (List Move)) → Option R) (x0 : Graph) :
    f32.b' L N (fun a0 => (k a0).bind j) (fun a0 a1 a2 a3 => (w0 a0 a1 a2 a3).bind j) x0 = (f32.b' L N k w0 x0).bind j := by
  unfold f32.b'
  repeat' (first | (with_reducible refine cond_nat ?_ ?_) | (with_reducible refine bind_nat fun _ => ?_) | exact f32.j0'_nat .. | rfl)
theorem f32.b_nat {R R' : Type} (j : R → Option R') (L N : Nat) (k : Bool → Option R) (x0 : Graph) :
    f32.b L N (fun a0 => (k a0).bind j) x0 = (f32.b L N k x0).bind j := by
  unfold f32.b
  simp only [f32.l0_nat, f32.p0_e0_nat, f32.p0_r_nat]
  exact f32.b'_nat ..
theorem f32.ok (L N : Nat) (hΦ : TellsOk Try.prog ((Φ73 L N))) : EntOk Try.prog 32 (f32.ent L N) := by
  intro args vw site h
  unfold f32.ent
  split
  · rename_i d ha
    intro y hy hs
    refine call_ro (dep := 1000) (E := (E32 L N)) (rs := (.one .bool)) (v := (.tv .bool y)) (sound_of hΦ) okP (callI_sound (sound_of hΦ) okP 1 2000) (f := Try.f32) rfl hs ha ?_ rfl site
    refine (f32.b_eq L N some d.1).trans ?_
    refine ((f32.b_nat (fun y => (some (.tv .bool y) : Option AV)) L N some d.1)).trans ?_
    rw [show f32.b L N some d.1 = some y from hy]
    rfl
  · intro y hy
    cases hy
def Φ32 (L N : Nat) : Tells := (addT (Φ73 L N) 32 (f32.ent L N))
theorem Φ32_ok (L N : Nat) : TellsOk Try.prog (Φ32 L N) := addT_ok (Φ73_ok L N) (f32.ok L N (Φ73_ok L N))
def f112.s0' {R : Type} (L N : Nat) (k0_e0 : (List (List Move)) → (List Bool) → (List Int) → Option R) (rec0 : (List Int) → Int → Int → (List (List Move)) → (List Bool) → (List Int) → Option R) (s0 : (List Int)) (s1 : Int) (s2 : Int) (s3 : (List (List Move))) (s4 : (List Bool)) (s5 : (List Int)) : Option R :=
  bif (decide (s2 < s1)) then
    bif (decide (0 ≤ s2) && decide (s2 < (s0.length : Int))) then
      bif (decide (0 ≤ (listAt s0 (0 : Int) s2.toNat)) && decide ((listAt s0 (0 : Int) s2.toNat) < (s4.length : Int))) then
        bif (!(listAt s4 false (listAt s0 (0 : Int) s2.toNat).toNat)) then
          bif (decide (0 ≤ (listAt s0 (0 : Int) s2.toNat)) && decide ((listAt s0 (0 : Int) s2.toNat) < (s4.length : Int))) then
            bif (decide (s5.length + ([(listAt s0 (0 : Int) s2.toNat)] : (List Int)).length ≤ lim)) then
              rec0 s0 s1 (wi (s2 + (1 : Int))) s3 (s4.set ((listAt s0 (0 : Int) s2.toNat).toNat) true) (s5 ++ ([(listAt s0 (0 : Int) s2.toNat)] : (List Int)))
            else none
          else none
        else rec0 s0 s1 (wi (s2 + (1 : Int))) s3 s4 s5
      else none
    else none
  else k0_e0 s3 s4 s5
def f112.s0 {R : Type} (L N : Nat) (k0_e0 : (List (List Move)) → (List Bool) → (List Int) → Option R) (rec0 : (List Int) → Int → Int → (List (List Move)) → (List Bool) → (List Int) → Option R) (s0 : (List Int)) (s1 : Int) (s2 : Int) (s3 : (List (List Move))) (s4 : (List Bool)) (s5 : (List Int)) : Option R :=
  f112.s0' L N k0_e0 rec0 s0 s1 s2 s3 s4 s5
def f112.l0 {R : Type} (L N : Nat) (k0_e0 : (List (List Move)) → (List Bool) → (List Int) → Option R) : Nat → (List Int) → Int → Int → (List (List Move)) → (List Bool) → (List Int) → Option R
  | 0, _, _, _, _, _, _ => none
  | n + 1, s0, s1, s2, s3, s4, s5 => f112.s0 L N k0_e0 (f112.l0 L N k0_e0 n) s0 s1 s2 s3 s4 s5
def f112.T0 (s0 : (List Int)) (s1 : Int) (s2 : Int) (s3 : (List (List Move))) (s4 : (List Bool)) (s5 : (List Int)) : T := mkT 79 [(2, (.ptr 1002 0)), (5, (.row 1015)), (6, (.row 1016)), (17, (.tv (.sl i64) s0)), (18, (.tv i64 s1)), (19, (.tv i64 s2))]
def f112.H0 (s0 : (List Int)) (s1 : Int) (s2 : Int) (s3 : (List (List Move))) (s4 : (List Bool)) (s5 : (List Int)) : H := [(1002, (.box [(.tv (.sl (.sl (.st 0))) s3)])), (1015, (.row 4 .bool s4)), (1016, (.row 3 i64 s5))]
def f112.T0_e0 (z6 : (List (List Move))) (z7 : (List Bool)) (z8 : (List Int)) : T := mkT 79 [(2, (.ptr 1002 0)), (5, (.row 1015)), (6, (.row 1016))]
def f112.H0_e0 (z6 : (List (List Move))) (z7 : (List Bool)) (z8 : (List Int)) : H := [(1002, (.box [(.tv (.sl (.sl (.st 0))) z6)])), (1015, (.row 4 .bool z7)), (1016, (.row 3 i64 z8))]
def f112.j0' {R : Type} (L N : Nat) (k2_e4 : Int → (List (List Move)) → (List Bool) → (List Int) → Option R) (rec2 : Int → (List Move) → Int → Int → (List (List Move)) → (List Bool) → (List Int) → Option R) (v31 : Int) (v32 : (List Move)) (v33 : Int) (v34 : Int) (v35 : Bool) (v36 : (List (List Move))) (v37 : Int) (v38 : Int) (v39 : (List Bool)) (v40 : (List Int)) : Option R :=
  bif v35 then
    bif (decide (0 ≤ v38) && decide (v38 < (v39.length : Int))) then
      bif (decide (v40.length + ([v38] : (List Int)).length ≤ lim)) then
        rec2 v31 v32 v33 (wi (v34 + (1 : Int))) v36 (v39.set v38.toNat true) (v40 ++ ([v38] : (List Int)))
      else none
    else none
  else rec2 v31 v32 v33 (wi (v34 + (1 : Int))) v36 v39 v40
def f112.s2' {R : Type} (L N : Nat) (k2_e4 : Int → (List (List Move)) → (List Bool) → (List Int) → Option R) (rec2 : Int → (List Move) → Int → Int → (List (List Move)) → (List Bool) → (List Int) → Option R) (s20 : Int) (s21 : (List Move)) (s22 : Int) (s23 : Int) (s24 : (List (List Move))) (s25 : (List Bool)) (s26 : (List Int)) : Option R :=
  bif (decide (s23 < s22)) then
    bif (decide (0 ≤ s23) && decide (s23 < (s21.length : Int))) then
      bif ((listAt s21 (Ty.dflt (.st 0)) s23.toNat).act == (0 : Int)) then
        bif (decide (0 ≤ (listAt s21 (Ty.dflt (.st 0)) s23.toNat).to) && decide ((listAt s21 (Ty.dflt (.st 0)) s23.toNat).to < (s25.length : Int))) then
          f112.j0' L N k2_e4 rec2 s20 s21 s22 s23 (!(listAt s25 false ((listAt s21 (Ty.dflt (.st 0)) s23.toNat).to).toNat)) s24 ((listAt s21 (Ty.dflt (.st 0)) s23.toNat).act) ((listAt s21 (Ty.dflt (.st 0)) s23.toNat).to) s25 s26
        else none
      else f112.j0' L N k2_e4 rec2 s20 s21 s22 s23 false s24 ((listAt s21 (Ty.dflt (.st 0)) s23.toNat).act) ((listAt s21 (Ty.dflt (.st 0)) s23.toNat).to) s25 s26
    else none
  else k2_e4 s20 s24 s25 s26
def f112.s2 {R : Type} (L N : Nat) (k2_e4 : Int → (List (List Move)) → (List Bool) → (List Int) → Option R) (rec2 : Int → (List Move) → Int → Int → (List (List Move)) → (List Bool) → (List Int) → Option R) (s20 : Int) (s21 : (List Move)) (s22 : Int) (s23 : Int) (s24 : (List (List Move))) (s25 : (List Bool)) (s26 : (List Int)) : Option R :=
  f112.s2' L N k2_e4 rec2 s20 s21 s22 s23 s24 s25 s26
def f112.l2 {R : Type} (L N : Nat) (k2_e4 : Int → (List (List Move)) → (List Bool) → (List Int) → Option R) : Nat → Int → (List Move) → Int → Int → (List (List Move)) → (List Bool) → (List Int) → Option R
  | 0, _, _, _, _, _, _, _ => none
  | n + 1, s20, s21, s22, s23, s24, s25, s26 => f112.s2 L N k2_e4 (f112.l2 L N k2_e4 n) s20 s21 s22 s23 s24 s25 s26
def f112.T2 (s20 : Int) (s21 : (List Move)) (s22 : Int) (s23 : Int) (s24 : (List (List Move))) (s25 : (List Bool)) (s26 : (List Int)) : T := mkT 79 [(2, (.ptr 1002 0)), (5, (.row 1015)), (6, (.row 1016)), (9, (.tv i64 s20)), (49, (.tv (.sl (.st 0)) s21)), (50, (.tv i64 s22)), (51, (.tv i64 s23))]
def f112.H2 (s20 : Int) (s21 : (List Move)) (s22 : Int) (s23 : Int) (s24 : (List (List Move))) (s25 : (List Bool)) (s26 : (List Int)) : H := [(1002, (.box [(.tv (.sl (.sl (.st 0))) s24)])), (1015, (.row 4 .bool s25)), (1016, (.row 3 i64 s26))]
def f112.T2_e4 (z27 : Int) (z28 : (List (List Move))) (z29 : (List Bool)) (z30 : (List Int)) : T := mkT 79 [(2, (.ptr 1002 0)), (5, (.row 1015)), (6, (.row 1016)), (9, (.tv i64 z27))]
def f112.H2_e4 (z27 : Int) (z28 : (List (List Move))) (z29 : (List Bool)) (z30 : (List Int)) : H := [(1002, (.box [(.tv (.sl (.sl (.st 0))) z28)])), (1015, (.row 4 .bool z29)), (1016, (.row 3 i64 z30))]
def f112.p2_e4' {R : Type} (L N : Nat) (k1_e2 : (List Int) → Option R) (rec1 : Int → (List (List Move)) → (List Bool) → (List Int) → Option R) (z27 : Int) (z28 : (List (List Move))) (z29 : (List Bool)) (z30 : (List Int)) : Option R :=
  rec1 (wi (z27 + (1 : Int))) z28 z29 z30
def f112.p2_e4 {R : Type} (L N : Nat) (k1_e2 : (List Int) → Option R) (rec1 : Int → (List (List Move)) → (List Bool) → (List Int) → Option R) (z27 : Int) (z28 : (List (List Move))) (z29 : (List Bool)) (z30 : (List Int)) : Option R :=
  f112.p2_e4' L N k1_e2 rec1 z27 z28 z29 z30
def f112.s1' {R : Type} (L N : Nat) (k1_e2 : (List Int) → Option R) (rec1 : Int → (List (List Move)) → (List Bool) → (List Int) → Option R) (w2 : Int → (List Move) → Int → Int → (List (List Move)) → (List Bool) → (List Int) → Option R) (s15 : Int) (s16 : (List (List Move))) (s17 : (List Bool)) (s18 : (List Int)) : Option R :=
  bif (decide (s15 < (s18.length : Int))) then
    bif (decide (0 ≤ s15) && decide (s15 < (s18.length : Int))) then
      bif (decide (0 ≤ (listAt s18 (0 : Int) s15.toNat)) && decide ((listAt s18 (0 : Int) s15.toNat) < (s16.length : Int))) then
        w2 s15 (listAt s16 [] (listAt s18 (0 : Int) s15.toNat).toNat) ((listAt s16 [] (listAt s18 (0 : Int) s15.toNat).toNat).length : Int) (0 : Int) s16 s17 s18
      else none
    else none
  else k1_e2 s18
def f112.s1 {R : Type} (L N : Nat) (k1_e2 : (List Int) → Option R) (rec1 : Int → (List (List Move)) → (List Bool) → (List Int) → Option R) (s15 : Int) (s16 : (List (List Move))) (s17 : (List Bool)) (s18 : (List Int)) : Option R :=
  f112.s1' L N k1_e2 rec1 (fun s20 s21 s22 s23 s24 s25 s26 => f112.l2 L N (fun z27 z28 z29 z30 => f112.p2_e4 L N k1_e2 rec1 z27 z28 z29 z30) L s20 s21 s22 s23 s24 s25 s26) s15 s16 s17 s18
def f112.l1 {R : Type} (L N : Nat) (k1_e2 : (List Int) → Option R) : Nat → Int → (List (List Move)) → (List Bool) → (List Int) → Option R
  | 0, _, _, _, _ => none
  | n + 1, s15, s16, s17, s18 => f112.s1 L N k1_e2 (f112.l1 L N k1_e2 n) s15 s16 s17 s18
def f112.T1 (s15 : Int) (s16 : (List (List Move))) (s17 : (List Bool)) (s18 : (List Int)) : T := mkT 79 [(2, (.ptr 1002 0)), (5, (.row 1015)), (6, (.row 1016)), (9, (.tv i64 s15))]
def f112.H1 (s15 : Int) (s16 : (List (List Move))) (s17 : (List Bool)) (s18 : (List Int)) : H := [(1002, (.box [(.tv (.sl (.sl (.st 0))) s16)])), (1015, (.row 4 .bool s17)), (1016, (.row 3 i64 s18))]
def f112.T1_e2 (z19 : (List Int)) : T := mkT 79 [(6, (.row 1016))]
def f112.H1_e2 (z19 : (List Int)) : H := [(1016, (.row 3 i64 z19))]
def f112.p1_e2' {R : Type} (L N : Nat) (k : (List Int) → Option R) (z19 : (List Int)) : Option R :=
  ((fsort z19)).bind fun y48 =>
  k (sortI z19)
def f112.p1_e2 {R : Type} (L N : Nat) (k : (List Int) → Option R) (z19 : (List Int)) : Option R :=
  f112.p1_e2' L N k z19
def f112.p0_e0' {R : Type} (L N : Nat) (k : (List Int) → Option R) (w1 : Int → (List (List Move)) → (List Bool) → (List Int) → Option R) (z6 : (List (List Move))) (z7 : (List Bool)) (z8 : (List Int)) : Option R :=
  w1 (0 : Int) z6 z7 z8
def f112.p0_e0 {R : Type} (L N : Nat) (k : (List Int) → Option R) (z6 : (List (List Move))) (z7 : (List Bool)) (z8 : (List Int)) : Option R :=
  f112.p0_e0' L N k (fun s15 s16 s17 s18 => f112.l1 L N (fun z19 => f112.p1_e2 L N k z19) L s15 s16 s17 s18) z6 z7 z8
def f112.b' {R : Type} (L N : Nat) (k : (List Int) → Option R) (w0 : (List Int) → Int → Int → (List (List Move)) → (List Bool) → (List Int) → Option R) (x0 : Graph) (x1 : (List Int)) : Option R :=
  bif (decide (0 ≤ (x0.moves.length : Int)) && decide ((x0.moves.length : Int) ≤ (lim : Int))) then
    w0 x1 (x1.length : Int) (0 : Int) x0.moves (List.replicate (x0.moves.length : Int).toNat false) ([] : (List Int))
  else none
def f112.b {R : Type} (L N : Nat) (k : (List Int) → Option R) (x0 : Graph) (x1 : (List Int)) : Option R :=
  f112.b' L N k (fun s0 s1 s2 s3 s4 s5 => f112.l0 L N (fun z6 z7 z8 => f112.p0_e0 L N k z6 z7 z8) L s0 s1 s2 s3 s4 s5) x0 x1
def f112 (L N : Nat) (x0 : Graph) (x1 : (List Int)) : Option ((List Int)) := f112.b L N some x0 x1
def f112.ent (L N : Nat) (args : List AV) (vw : View) (site : Nat) : Ans := match roD [(.st 2), (.sl i64)] vw args with
  | some d => ⟨(List Int), f112 L N d.1 d.2.1, fun y => (RN.av site .row (), [(site, some (mkO none 3 i64 y))], [])⟩
  | none => Ans.no
noncomputable def E112 (L N : Nat) : Env := { P := Try.prog, ty := tyOf, Φ := (Φ32 L N), inl := inlT, live := lives, liveX := livesX, L := L, dp := none, prom := promT, heal := healT, ren := renT }
noncomputable def f112.c0 : Code := loopAt 0 (codeOf Try.f112)
theorem f112.s0_pre {R : Type} (L N : Nat) (κ : Ex → T → H → Option R) (rec : T → H → Option R) (s0 : (List Int)) (s1 : Int) (s2 : Int) (s3 : (List (List Move))) (s4 : (List Bool)) (s5 : (List Int)) :
    evRd (E112 L N) (evCallI (E112 L N) 1 2000) 1000 112 79 0 f112.c0 κ rec (f112.T0 s0 s1 s2 s3 s4 s5) (f112.H0 s0 s1 s2 s3 s4 s5)
    = f112.s0' L N (fun z6 z7 z8 => κ (.exit 0) (f112.T0_e0 z6 z7 z8) (f112.H0_e0 z6 z7 z8)) (fun s0 s1 s2 s3 s4 s5 => rec (f112.T0 s0 s1 s2 s3 s4 s5) (f112.H0 s0 s1 s2 s3 s4 s5)) s0 s1 s2 s3 s4 s5 := by kernel_rfl
theorem f112.s0_eq {R : Type} (L N : Nat) (κ : Ex → T → H → Option R) (rec : T → H → Option R) (s0 : (List Int)) (s1 : Int) (s2 : Int) (s3 : (List (List Move))) (s4 : (List Bool)) (s5 : (List Int)) :
    evRd (E112 L N) (evCallI (E112 L N) 1 2000) 1000 112 79 0 f112.c0 κ rec (f112.T0 s0 s1 s2 s3 s4 s5) (f112.H0 s0 s1 s2 s3 s4 s5)
    = f112.s0 L N (fun z6 z7 z8 => κ (.exit 0) (f112.T0_e0 z6 z7 z8) (f112.H0_e0 z6 z7 z8)) (fun s0 s1 s2 s3 s4 s5 => rec (f112.T0 s0 s1 s2 s3 s4 s5) (f112.H0 s0 s1 s2 s3 s4 s5)) s0 s1 s2 s3 s4 s5 := by
  rw [f112.s0_pre]
  unfold f112.s0
  rfl
theorem f112.l0_eq {R : Type} (L N : Nat) (κ : Ex → T → H → Option R) : ∀ (n : Nat) (s0 : (List Int)) (s1 : Int) (s2 : Int) (s3 : (List (List Move))) (s4 : (List Bool)) (s5 : (List Int)),
    evLp (E112 L N) (evCallI (E112 L N) 1 2000) 1000 112 79 0 f112.c0 κ n (f112.T0 s0 s1 s2 s3 s4 s5) (f112.H0 s0 s1 s2 s3 s4 s5)
    = f112.l0 L N (fun z6 z7 z8 => κ (.exit 0) (f112.T0_e0 z6 z7 z8) (f112.H0_e0 z6 z7 z8)) n s0 s1 s2 s3 s4 s5 := by
  intro n
  induction n with
  | zero => intros; rfl
  | succ n ih =>
    intro s0 s1 s2 s3 s4 s5
    rw [evLp_succ, f112.s0_eq]
    simp only [ih]
    rfl
noncomputable def f112.c1 : Code := loopAt 2 (codeOf Try.f112)
noncomputable def f112.c2 : Code := loopAt 4 f112.c1
theorem f112.s2_pre {R : Type} (L N : Nat) (κ : Ex → T → H → Option R) (rec : T → H → Option R) (s20 : Int) (s21 : (List Move)) (s22 : Int) (s23 : Int) (s24 : (List (List Move))) (s25 : (List Bool)) (s26 : (List Int)) :
    evRd (E112 L N) (evCallI (E112 L N) 1 2000) 1000 112 79 4 f112.c2 κ rec (f112.T2 s20 s21 s22 s23 s24 s25 s26) (f112.H2 s20 s21 s22 s23 s24 s25 s26)
    = f112.s2' L N (fun z27 z28 z29 z30 => κ (.exit 4) (f112.T2_e4 z27 z28 z29 z30) (f112.H2_e4 z27 z28 z29 z30)) (fun s20 s21 s22 s23 s24 s25 s26 => rec (f112.T2 s20 s21 s22 s23 s24 s25 s26) (f112.H2 s20 s21 s22 s23 s24 s25 s26)) s20 s21 s22 s23 s24 s25 s26 := by kernel_rfl
theorem f112.s2_eq {R : Type} (L N : Nat) (κ : Ex → T → H → Option R) (rec : T → H → Option R) (s20 : Int) (s21 : (List Move)) (s22 : Int) (s23 : Int) (s24 : (List (List Move))) (s25 : (List Bool)) (s26 : (List Int)) :
    evRd (E112 L N) (evCallI (E112 L N) 1 2000) 1000 112 79 4 f112.c2 κ rec (f112.T2 s20 s21 s22 s23 s24 s25 s26) (f112.H2 s20 s21 s22 s23 s24 s25 s26)
    = f112.s2 L N (fun z27 z28 z29 z30 => κ (.exit 4) (f112.T2_e4 z27 z28 z29 z30) (f112.H2_e4 z27 z28 z29 z30)) (fun s20 s21 s22 s23 s24 s25 s26 => rec (f112.T2 s20 s21 s22 s23 s24 s25 s26) (f112.H2 s20 s21 s22 s23 s24 s25 s26)) s20 s21 s22 s23 s24 s25 s26 := by
  rw [f112.s2_pre]
  unfold f112.s2
  rfl
theorem f112.l2_eq {R : Type} (L N : Nat) (κ : Ex → T → H → Option R) : ∀ (n : Nat) (s20 : Int) (s21 : (List Move)) (s22 : Int) (s23 : Int) (s24 : (List (List Move))) (s25 : (List Bool)) (s26 : (List Int)),
    evLp (E112 L N) (evCallI (E112 L N) 1 2000) 1000 112 79 4 f112.c2 κ n (f112.T2 s20 s21 s22 s23 s24 s25 s26) (f112.H2 s20 s21 s22 s23 s24 s25 s26)
    = f112.l2 L N (fun z27 z28 z29 z30 => κ (.exit 4) (f112.T2_e4 z27 z28 z29 z30) (f112.H2_e4 z27 z28 z29 z30)) n s20 s21 s22 s23 s24 s25 s26 := by
  intro n
  induction n with
  | zero => intros; rfl
  | succ n ih =>
    intro s20 s21 s22 s23 s24 s25 s26
    rw [evLp_succ, f112.s2_eq]
    simp only [ih]
    rfl
theorem f112.p2_e4_pre {R : Type} (L N : Nat) (κ : Ex → T → H → Option R) (rec : T → H → Option R) (z27 : Int) (z28 : (List (List Move))) (z29 : (List Bool)) (z30 : (List Int)) :
    (contAt (E112 L N) (evCallI (E112 L N) 1 2000) 1000 112 79 4 f112.c1 (stepK (outK (keepT 79 ((E112 L N).liveX 112 2).1) (keepH 1000 ((E112 L N).liveX 112 2).2) κ) fun t h => rec (backK 1000 79 ((E112 L N).live 112 2).1 ((E112 L N).live 112 2).2 ((E112 L N).heal 112 2) ((E112 L N).ren 112 2) t h).1 (backK 1000 79 ((E112 L N).live 112 2).1 ((E112 L N).live 112 2).2 ((E112 L N).heal 112 2) ((E112 L N).ren 112 2) t h).2)) (.exit 4) (f112.T2_e4 z27 z28 z29 z30) (f112.H2_e4 z27 z28 z29 z30)
    = f112.p2_e4' L N (fun z19 => κ (.exit 2) (f112.T1_e2 z19) (f112.H1_e2 z19)) (fun s15 s16 s17 s18 => rec (f112.T1 s15 s16 s17 s18) (f112.H1 s15 s16 s17 s18)) z27 z28 z29 z30 := by kernel_rfl
theorem f112.p2_e4_eq {R : Type} (L N : Nat) (κ : Ex → T → H → Option R) (rec : T → H → Option R) (z27 : Int) (z28 : (List (List Move))) (z29 : (List Bool)) (z30 : (List Int)) :
    (contAt (E112 L N) (evCallI (E112 L N) 1 2000) 1000 112 79 4 f112.c1 (stepK (outK (keepT 79 ((E112 L N).liveX 112 2).1) (keepH 1000 ((E112 L N).liveX 112 2).2) κ) fun t h => rec (backK 1000 79 ((E112 L N).live 112 2).1 ((E112 L N).live 112 2).2 ((E112 L N).heal 112 2) ((E112 L N).ren 112 2) t h).1 (backK 1000 79 ((E112 L N).live 112 2).1 ((E112 L N).live 112 2).2 ((E112 L N).heal 112 2) ((E112 L N).ren 112 2) t h).2)) (.exit 4) (f112.T2_e4 z27 z28 z29 z30) (f112.H2_e4 z27 z28 z29 z30)
    = f112.p2_e4 L N (fun z19 => κ (.exit 2) (f112.T1_e2 z19) (f112.H1_e2 z19)) (fun s15 s16 s17 s18 => rec (f112.T1 s15 s16 s17 s18) (f112.H1 s15 s16 s17 s18)) z27 z28 z29 z30 := by
  rw [f112.p2_e4_pre]
  unfold f112.p2_e4
  rfl
theorem f112.s1_pre {R : Type} (L N : Nat) (κ : Ex → T → H → Option R) (rec : T → H → Option R) (s15 : Int) (s16 : (List (List Move))) (s17 : (List Bool)) (s18 : (List Int)) :
    evRd (E112 L N) (evCallI (E112 L N) 1 2000) 1000 112 79 2 f112.c1 κ rec (f112.T1 s15 s16 s17 s18) (f112.H1 s15 s16 s17 s18)
    = f112.s1' L N (fun z19 => κ (.exit 2) (f112.T1_e2 z19) (f112.H1_e2 z19)) (fun s15 s16 s17 s18 => rec (f112.T1 s15 s16 s17 s18) (f112.H1 s15 s16 s17 s18)) (fun s20 s21 s22 s23 s24 s25 s26 => evLp (E112 L N) (evCallI (E112 L N) 1 2000) 1000 112 79 4 f112.c2 (contAt (E112 L N) (evCallI (E112 L N) 1 2000) 1000 112 79 4 f112.c1 (stepK (outK (keepT 79 ((E112 L N).liveX 112 2).1) (keepH 1000 ((E112 L N).liveX 112 2).2) κ) fun t h => rec (backK 1000 79 ((E112 L N).live 112 2).1 ((E112 L N).live 112 2).2 ((E112 L N).heal 112 2) ((E112 L N).ren 112 2) t h).1 (backK 1000 79 ((E112 L N).live 112 2).1 ((E112 L N).live 112 2).2 ((E112 L N).heal 112 2) ((E112 L N).ren 112 2) t h).2)) L (f112.T2 s20 s21 s22 s23 s24 s25 s26) (f112.H2 s20 s21 s22 s23 s24 s25 s26)) s15 s16 s17 s18 := by kernel_rfl
theorem f112.s1_eq {R : Type} (L N : Nat) (κ : Ex → T → H → Option R) (rec : T → H → Option R) (s15 : Int) (s16 : (List (List Move))) (s17 : (List Bool)) (s18 : (List Int)) :
    evRd (E112 L N) (evCallI (E112 L N) 1 2000) 1000 112 79 2 f112.c1 κ rec (f112.T1 s15 s16 s17 s18) (f112.H1 s15 s16 s17 s18)
    = f112.s1 L N (fun z19 => κ (.exit 2) (f112.T1_e2 z19) (f112.H1_e2 z19)) (fun s15 s16 s17 s18 => rec (f112.T1 s15 s16 s17 s18) (f112.H1 s15 s16 s17 s18)) s15 s16 s17 s18 := by
  rw [f112.s1_pre]
  unfold f112.s1
  simp only [f112.l2_eq, f112.p2_e4_eq]
theorem f112.l1_eq {R : Type} (L N : Nat) (κ : Ex → T → H → Option R) : ∀ (n : Nat) (s15 : Int) (s16 : (List (List Move))) (s17 : (List Bool)) (s18 : (List Int)),
    evLp (E112 L N) (evCallI (E112 L N) 1 2000) 1000 112 79 2 f112.c1 κ n (f112.T1 s15 s16 s17 s18) (f112.H1 s15 s16 s17 s18)
    = f112.l1 L N (fun z19 => κ (.exit 2) (f112.T1_e2 z19) (f112.H1_e2 z19)) n s15 s16 s17 s18 := by
  intro n
  induction n with
  | zero => intros; rfl
  | succ n ih =>
    intro s15 s16 s17 s18
    rw [evLp_succ, f112.s1_eq]
    simp only [ih]
    rfl
theorem f112.p1_e2_pre {R : Type} (L N : Nat) (κ : RN.Den .row → List Int → Option R) (z19 : (List Int)) :
    (contAt (E112 L N) (evCallI (E112 L N) 1 2000) 1000 112 79 2 (codeOf Try.f112) (finK (E112 L N) 1000 Try.f112 (finN .row none 3 i64 κ))) (.exit 2) (f112.T1_e2 z19) (f112.H1_e2 z19)
    = f112.p1_e2' L N (fun a0 => κ () a0) z19 := by kernel_rfl
theorem f112.p1_e2_eq {R : Type} (L N : Nat) (κ : RN.Den .row → List Int → Option R) (z19 : (List Int)) :
    (contAt (E112 L N) (evCallI (E112 L N) 1 2000) 1000 112 79 2 (codeOf Try.f112) (finK (E112 L N) 1000 Try.f112 (finN .row none 3 i64 κ))) (.exit 2) (f112.T1_e2 z19) (f112.H1_e2 z19)
    = f112.p1_e2 L N (fun a0 => κ () a0) z19 := by
  rw [f112.p1_e2_pre]
  unfold f112.p1_e2
  rfl
theorem f112.p0_e0_pre {R : Type} (L N : Nat) (κ : RN.Den .row → List Int → Option R) (z6 : (List (List Move))) (z7 : (List Bool)) (z8 : (List Int)) :
    (contAt (E112 L N) (evCallI (E112 L N) 1 2000) 1000 112 79 0 (codeOf Try.f112) (finK (E112 L N) 1000 Try.f112 (finN .row none 3 i64 κ))) (.exit 0) (f112.T0_e0 z6 z7 z8) (f112.H0_e0 z6 z7 z8)
    = f112.p0_e0' L N (fun a0 => κ () a0) (fun s15 s16 s17 s18 => evLp (E112 L N) (evCallI (E112 L N) 1 2000) 1000 112 79 2 f112.c1 (contAt (E112 L N) (evCallI (E112 L N) 1 2000) 1000 112 79 2 (codeOf Try.f112) (finK (E112 L N) 1000 Try.f112 (finN .row none 3 i64 κ))) L (f112.T1 s15 s16 s17 s18) (f112.H1 s15 s16 s17 s18)) z6 z7 z8 := by kernel_rfl
theorem f112.p0_e0_eq {R : Type} (L N : Nat) (κ : RN.Den .row → List Int → Option R) (z6 : (List (List Move))) (z7 : (List Bool)) (z8 : (List Int)) :
    (contAt (E112 L N) (evCallI (E112 L N) 1 2000) 1000 112 79 0 (codeOf Try.f112) (finK (E112 L N) 1000 Try.f112 (finN .row none 3 i64 κ))) (.exit 0) (f112.T0_e0 z6 z7 z8) (f112.H0_e0 z6 z7 z8)
    = f112.p0_e0 L N (fun a0 => κ () a0) z6 z7 z8 := by
  rw [f112.p0_e0_pre]
  unfold f112.p0_e0
  simp only [f112.l1_eq, f112.p1_e2_eq]
theorem f112.b_pre {R : Type} (L N : Nat) (κ : RN.Den .row → List Int → Option R) (x0 : Graph) (x1 : (List Int)) :
    evBody (E112 L N) (evCallI (E112 L N) 1 2000) 1000 112 Try.f112 [(.tv (.st 2) x0), (.tv (.sl i64) x1)] [] [] (finN .row none 3 i64 κ)
    = f112.b' L N (fun a0 => κ () a0) (fun s0 s1 s2 s3 s4 s5 => evLp (E112 L N) (evCallI (E112 L N) 1 2000) 1000 112 79 0 f112.c0 (contAt (E112 L N) (evCallI (E112 L N) 1 2000) 1000 112 79 0 (codeOf Try.f112) (finK (E112 L N) 1000 Try.f112 (finN .row none 3 i64 κ))) L (f112.T0 s0 s1 s2 s3 s4 s5) (f112.H0 s0 s1 s2 s3 s4 s5)) x0 x1 := by kernel_rfl
theorem f112.b_eq {R : Type} (L N : Nat) (κ : RN.Den .row → List Int → Option R) (x0 : Graph) (x1 : (List Int)) :
    evBody (E112 L N) (evCallI (E112 L N) 1 2000) 1000 112 Try.f112 [(.tv (.st 2) x0), (.tv (.sl i64) x1)] [] [] (finN .row none 3 i64 κ)
    = f112.b L N (fun a0 => κ () a0) x0 x1 := by
  rw [f112.b_pre]
  unfold f112.b
  simp only [f112.l0_eq, f112.p0_e0_eq]
theorem f112.s0'_nat {R R' : Type} (j : R → Option R') (L N : Nat) (k0_e0 : (List (List Move)) → (List Bool) → (List Int) → Option R) (rec0 : (List Int) → Int → Int → (List (List Move)) → (List Bool) → (List Int) → Option R) (s0 : (List Int)) (s1 : Int) (s2 : Int) (s3 : (List (List Move))) (s4 : (List Bool)) (s5 : (List Int)) :
    f112.s0' L N (fun a0 a1 a2 => (k0_e0 a0 a1 a2).bind j) (fun a0 a1 a2 a3 a4 a5 => (rec0 a0 a1 a2 a3 a4 a5).bind j) s0 s1 s2 s3 s4 s5 = (f112.s0' L N k0_e0 rec0 s0 s1 s2 s3 s4 s5).bind j := by
  unfold f112.s0'
  repeat' (first | (with_reducible refine cond_nat ?_ ?_) | (with_reducible refine bind_nat fun _ => ?_) | rfl)
theorem f112.s0_nat {R R' : Type} (j : R → Option R') (L N : Nat) (k0_e0 : (List (List Move)) → (List Bool) → (List Int) → Option R) (rec0 : (List Int) → Int → Int → (List (List Move)) → (List Bool) → (List Int) → Option R) (s0 : (List Int)) (s1 : Int) (s2 : Int) (s3 : (List (List Move))) (s4 : (List Bool)) (s5 : (List Int)) :
    f112.s0 L N (fun a0 a1 a2 => (k0_e0 a0 a1 a2).bind j) (fun a0 a1 a2 a3 a4 a5 => (rec0 a0 a1 a2 a3 a4 a5).bind j) s0 s1 s2 s3 s4 s5 = (f112.s0 L N k0_e0 rec0 s0 s1 s2 s3 s4 s5).bind j := by
  unfold f112.s0
  exact f112.s0'_nat ..
theorem f112.l0_nat {R R' : Type} (j : R → Option R') (L N : Nat) (k0_e0 : (List (List Move)) → (List Bool) → (List Int) → Option R) : ∀ (n : Nat) (s0 : (List Int)) (s1 : Int) (s2 : Int) (s3 : (List (List Move))) (s4 : (List Bool)) (s5 : (List Int)),
    f112.l0 L N (fun a0 a1 a2 => (k0_e0 a0 a1 a2).bind j) n s0 s1 s2 s3 s4 s5 = (f112.l0 L N k0_e0 n s0 s1 s2 s3 s4 s5).bind j := by
  intro n
  induction n with
  | zero => intros; rfl
  | succ n ih =>
    intro s0 s1 s2 s3 s4 s5
    show f112.s0 L N (fun a0 a1 a2 => (k0_e0 a0 a1 a2).bind j) (f112.l0 L N (fun a0 a1 a2 => (k0_e0 a0 a1 a2).bind j) n) s0 s1 s2 s3 s4 s5 = _
    rw [show f112.l0 L N (fun a0 a1 a2 => (k0_e0 a0 a1 a2).bind j) n = (fun s0 s1 s2 s3 s4 s5 => (f112.l0 L N k0_e0 n s0 s1 s2 s3 s4 s5).bind j) from funext fun s0 => funext fun s1 => funext fun s2 => funext fun s3 => funext fun s4 => funext fun s5 => ih s0 s1 s2 s3 s4 s5]
    exact f112.s0_nat ..
theorem f112.j0'_nat {R R' : Type} (j : R → Option R') (L N : Nat) (k2_e4 : Int → (List (List Move)) → (List Bool) → (List Int) → Option R) (rec2 : Int → (List Move) → Int → Int → (List (List Move)) → (List Bool) → (List Int) → Option R) (v31 : Int) (v32 : (List Move)) (v33 : Int) (v34 : Int) (v35 : Bool) (v36 : (List (List Move))) (v37 : Int) (v38 : Int) (v39 : (List Bool)) (v40 : (List Int)) :
    f112.j0' L N (fun a0 a1 a2 a3 => (k2_e4 a0 a1 a2 a3).bind j) (fun a0 a1 a2 a3 a4 a5 a6 => (rec2 a0 a1 a2 a3 a4 a5 a6).bind j) v31 v32 v33 v34 v35 v36 v37 v38 v39 v40 = (f112.j0' L N k2_e4 rec2 v31 v32 v33 v34 v35 v36 v37 v38 v39 v40).bind j := by
  unfold f112.j0'
  repeat' (first | (with_reducible refine cond_nat ?_ ?_) | (with_reducible refine bind_nat fun _ => ?_) | rfl)
theorem f112.s2'_nat {R R' : Type} (j : R → Option R') (L N : Nat) (k2_e4 : Int → (List (List Move)) → (List Bool) → (List Int) → Option R) (rec2 : Int → (List Move) → Int → Int → (List (List Move)) → (List Bool) → (List Int) → Option R) (s20 : Int) (s21 : (List Move)) (s22 : Int) (s23 : Int) (s24 : (List (List Move))) (s25 : (List Bool)) (s26 : (List Int)) :
    f112.s2' L N (fun a0 a1 a2 a3 => (k2_e4 a0 a1 a2 a3).bind j) (fun a0 a1 a2 a3 a4 a5 a6 => (rec2 a0 a1 a2 a3 a4 a5 a6).bind j) s20 s21 s22 s23 s24 s25 s26 = (f112.s2' L N k2_e4 rec2 s20 s21 s22 s23 s24 s25 s26).bind j := by
  unfold f112.s2'
  repeat' (first | (with_reducible refine cond_nat ?_ ?_) | (with_reducible refine bind_nat fun _ => ?_) | exact f112.j0'_nat .. | rfl)
theorem f112.s2_nat {R R' : Type} (j : R → Option R') (L N : Nat) (k2_e4 : Int → (List (List Move)) → (List Bool) → (List Int) → Option R) (rec2 : Int → (List Move) → Int → Int → (List (List Move)) → (List Bool) → (List Int) → Option R) (s20 : Int) (s21 : (List Move)) (s22 : Int) (s23 : Int) (s24 : (List (List Move))) (s25 : (List Bool)) (s26 : (List Int)) :
    f112.s2 L N (fun a0 a1 a2 a3 => (k2_e4 a0 a1 a2 a3).bind j) (fun a0 a1 a2 a3 a4 a5 a6 => (rec2 a0 a1 a2 a3 a4 a5 a6).bind j) s20 s21 s22 s23 s24 s25 s26 = (f112.s2 L N k2_e4 rec2 s20 s21 s22 s23 s24 s25 s26).bind j := by
  unfold f112.s2
  exact f112.s2'_nat ..
theorem f112.l2_nat {R R' : Type} (j : R → Option R') (L N : Nat) (k2_e4 : Int → (List (List Move)) → (List Bool) → (List Int) → Option R) : ∀ (n : Nat) (s20 : Int) (s21 : (List Move)) (s22 : Int) (s23 : Int) (s24 : (List (List Move))) (s25 : (List Bool)) (s26 : (List Int)),
    f112.l2 L N (fun a0 a1 a2 a3 => (k2_e4 a0 a1 a2 a3).bind j) n s20 s21 s22 s23 s24 s25 s26 = (f112.l2 L N k2_e4 n s20 s21 s22 s23 s24 s25 s26).bind j := by
  intro n
  induction n with
  | zero => intros; rfl
  | succ n ih =>
    intro s20 s21 s22 s23 s24 s25 s26
    show f112.s2 L N (fun a0 a1 a2 a3 => (k2_e4 a0 a1 a2 a3).bind j) (f112.l2 L N (fun a0 a1 a2 a3 => (k2_e4 a0 a1 a2 a3).bind j) n) s20 s21 s22 s23 s24 s25 s26 = _
    rw [show f112.l2 L N (fun a0 a1 a2 a3 => (k2_e4 a0 a1 a2 a3).bind j) n = (fun s20 s21 s22 s23 s24 s25 s26 => (f112.l2 L N k2_e4 n s20 s21 s22 s23 s24 s25 s26).bind j) from funext fun s20 => funext fun s21 => funext fun s22 => funext fun s23 => funext fun s24 => funext fun s25 => funext fun s26 => ih s20 s21 s22 s23 s24 s25 s26]
    exact f112.s2_nat ..
theorem f112.p2_e4'_nat {R R' : Type} (j : R → Option R') (L N : Nat) (k1_e2 : (List Int) → Option R) (rec1 : Int → (List (List Move)) → (List Bool) → (List Int) → Option R) (z27 : Int) (z28 : (List (List Move))) (z29 : (List Bool)) (z30 : (List Int)) :
    f112.p2_e4' L N (fun a0 => (k1_e2 a0).bind j) (fun a0 a1 a2 a3 => (rec1 a0 a1 a2 a3).bind j) z27 z28 z29 z30 = (f112.p2_e4' L N k1_e2 rec1 z27 z28 z29 z30).bind j := by
  unfold f112.p2_e4'
  repeat' (first | (with_reducible refine cond_nat ?_ ?_) | (with_reducible refine bind_nat fun _ => ?_) | rfl)
theorem f112.p2_e4_nat {R R' : Type} (j : R → Option R') (L N : Nat) (k1_e2 : (List Int) → Option R) (rec1 : Int → (List (List Move)) → (List Bool) → (List Int) → Option R) (z27 : Int) (z28 : (List (List Move))) (z29 : (List Bool)) (z30 : (List Int)) :
    f112.p2_e4 L N (fun a0 => (k1_e2 a0).bind j) (fun a0 a1 a2 a3 => (rec1 a0 a1 a2 a3).bind j) z27 z28 z29 z30 = (f112.p2_e4 L N k1_e2 rec1 z27 z28 z29 z30).bind j := by
  unfold f112.p2_e4
  exact f112.p2_e4'_nat ..
theorem f112.s1'_nat {R R' : Type} (j : R → Option R') (L N : Nat) (k1_e2 : (List Int) → Option R) (rec1 : Int → (List (List Move)) → (List Bool) → (List Int) → Option R) (w2 : Int → (List Move) → Int → Int → (List (List Move)) → (List Bool) → (List Int) → Option R) (s15 : Int) (s16 : (List (List Move))) (s17 : (List Bool)) (s18 : (List Int)) :
    f112.s1' L N (fun a0 => (k1_e2 a0).bind j) (fun a0 a1 a2 a3 => (rec1 a0 a1 a2 a3).bind j) (fun a0 a1 a2 a3 a4 a5 a6 => (w2 a0 a1 a2 a3 a4 a5 a6).bind j) s15 s16 s17 s18 = (f112.s1' L N k1_e2 rec1 w2 s15 s16 s17 s18).bind j := by
  unfold f112.s1'
  repeat' (first | (with_reducible refine cond_nat ?_ ?_) | (with_reducible refine bind_nat fun _ => ?_) | rfl)
theorem f112.s1_nat {R R' : Type} (j : R → Option R') (L N : Nat) (k1_e2 : (List Int) → Option R) (rec1 : Int → (List (List Move)) → (List Bool) → (List Int) → Option R) (s15 : Int) (s16 : (List (List Move))) (s17 : (List Bool)) (s18 : (List Int)) :
    f112.s1 L N (fun a0 => (k1_e2 a0).bind j) (fun a0 a1 a2 a3 => (rec1 a0 a1 a2 a3).bind j) s15 s16 s17 s18 = (f112.s1 L N k1_e2 rec1 s15 s16 s17 s18).bind j := by
  unfold f112.s1
  simp only [f112.l2_nat, f112.p2_e4_nat]
  exact f112.s1'_nat ..
theorem f112.l1_nat {R R' : Type} (j : R → Option R') (L N : Nat) (k1_e2 : (List Int) → Option R) : ∀ (n : Nat) (s15 : Int) (s16 : (List (List Move))) (s17 : (List Bool)) (s18 : (List Int)),
    f112.l1 L N (fun a0 => (k1_e2 a0).bind j) n s15 s16 s17 s18 = (f112.l1 L N k1_e2 n s15 s16 s17 s18).bind j := by
  intro n
  induction n with
  | zero => intros; rfl
  | succ n ih =>
    intro s15 s16 s17 s18
    show f112.s1 L N (fun a0 => (k1_e2 a0).bind j) (f112.l1 L N (fun a0 => (k1_e2 a0).bind j) n) s15 s16 s17 s18 = _
    rw [show f112.l1 L N (fun a0 => (k1_e2 a0).bind j) n = (fun s15 s16 s17 s18 => (f112.l1 L N k1_e2 n s15 s16 s17 s18).bind j) from funext fun s15 => funext fun s16 => funext fun s17 => funext fun s18 => ih s15 s16 s17 s18]
    exact f112.s1_nat ..
theorem f112.p1_e2'_nat {R R' : Type} (j : R → Option R') (L N : Nat) (k : (List Int) → Option R) (z19 : (List Int)) :
    f112.p1_e2' L N (fun a0 => (k a0).bind j) z19 = (f112.p1_e2' L N k z19).bind j := by
  unfold f112.p1_e2'
  repeat' (first | (with_reducible refine cond_nat ?_ ?_) | (with_reducible refine bind_nat fun _ => ?_) | rfl)
theorem f112.p1_e2_nat {R R' : Type} (j : R → Option R') (L N : Nat) (k : (List Int) → Option R) (z19 : (List Int)) :
    f112.p1_e2 L N (fun a0 => (k a0).bind j) z19 = (f112.p1_e2 L N k z19).bind j := by
  unfold f112.p1_e2
  exact f112.p1_e2'_nat ..
theorem f112.p0_e0'_nat {R R' : Type} (j : R → Option R') (L N : Nat) (k : (List Int) → Option R) (w1 : Int → (List (List Move)) → (List Bool) → (List Int) → Option R) (z6 : (List (List Move))) (z7 : (List Bool)) (z8 : (List Int)) :
    f112.p0_e0' L N (fun a0 => (k a0).bind j) (fun a0 a1 a2 a3 => (w1 a0 a1 a2 a3).bind j) z6 z7 z8 = (f112.p0_e0' L N k w1 z6 z7 z8).bind j := by
  unfold f112.p0_e0'
  repeat' (first | (with_reducible refine cond_nat ?_ ?_) | (with_reducible refine bind_nat fun _ => ?_) | rfl)
theorem f112.p0_e0_nat {R R' : Type} (j : R → Option R') (L N : Nat) (k : (List Int) → Option R) (z6 : (List (List Move))) (z7 : (List Bool)) (z8 : (List Int)) :
    f112.p0_e0 L N (fun a0 => (k a0).bind j) z6 z7 z8 = (f112.p0_e0 L N k z6 z7 z8).bind j := by
  unfold f112.p0_e0
  simp only [f112.l1_nat, f112.p1_e2_nat]
  exact f112.p0_e0'_nat ..
theorem f112.b'_nat {R R' : Type} (j : R → Option R') (L N : Nat) (k : (List Int) → Option R) (w0 : (List Int) → Int → Int → (List (List Move)) → (List Bool) → (List Int) → Option R) (x0 : Graph) (x1 : (List Int)) :
    f112.b' L N (fun a0 => (k a0).bind j) (fun a0 a1 a2 a3 a4 a5 => (w0 a0 a1 a2 a3 a4 a5).bind j) x0 x1 = (f112.b' L N k w0 x0 x1).bind j := by
  unfold f112.b'
  repeat' (first | (with_reducible refine cond_nat ?_ ?_) | (with_reducible refine bind_nat fun _ => ?_) | rfl)
theorem f112.b_nat {R R' : Type} (j : R → Option R') (L N : Nat) (k : (List Int) → Option R) (x0 : Graph) (x1 : (List Int)) :
    f112.b L N (fun a0 => (k a0).bind j) x0 x1 = (f112.b L N k x0 x1).bind j := by
  unfold f112.b
  simp only [f112.l0_nat, f112.p0_e0_nat]
  exact f112.b'_nat ..
theorem f112.ok (L N : Nat) (hΦ : TellsOk Try.prog ((Φ32 L N))) : EntOk Try.prog 112 (f112.ent L N) := by
  intro args vw site h
  unfold f112.ent
  split
  · rename_i d ha
    intro y hy hs
    refine call_ron (dep := 1000) (E := (E112 L N)) (ts := [(.st 2), (.sl i64)]) (rn := .row) (q := none) (el := 3) (ty := i64) (d1 := ()) (xs := y) (sound_of hΦ) okP (callI_sound (sound_of hΦ) okP 1 2000) (f := Try.f112) rfl hs ha ?_ rfl site
    refine (f112.b_eq L N (fun d xs => some (d, xs)) d.1 d.2.1).trans ?_
    refine ((f112.b_nat (fun y => (some ((), y) : Option (RN.Den .row × List Int))) L N some d.1 d.2.1)).trans ?_
    rw [show f112.b L N some d.1 d.2.1 = some y from hy]
    rfl
  · intro y hy
    cases hy
def Φ112 (L N : Nat) : Tells := (addT (Φ32 L N) 112 (f112.ent L N))
theorem Φ112_ok (L N : Nat) : TellsOk Try.prog (Φ112 L N) := addT_ok (Φ32_ok L N) (f112.ok L N (Φ32_ok L N))
def f124.s0' {R : Type} (L N : Nat) (k0_e0 : (List (List Int)) → Option R) (rec0 : Int → Int → (List (List Move)) → (List (List Int)) → Option R) (s0 : Int) (s1 : Int) (s2 : (List (List Move))) (s3 : (List (List Int))) : Option R :=
  bif (decide (s1 < s0)) then
    (f112 L N (Graph.mk s2) ([s1] : (List Int))).bind fun y5 =>
    bif (decide (s3.length + ([y5] : (List (List Int))).length ≤ lim)) then
      rec0 s0 (wi (s1 + (1 : Int))) s2 (s3 ++ ([y5] : (List (List Int))))
    else none
  else k0_e0 s3
def f124.s0 {R : Type} (L N : Nat) (k0_e0 : (List (List Int)) → Option R) (rec0 : Int → Int → (List (List Move)) → (List (List Int)) → Option R) (s0 : Int) (s1 : Int) (s2 : (List (List Move))) (s3 : (List (List Int))) : Option R :=
  f124.s0' L N k0_e0 rec0 s0 s1 s2 s3
def f124.l0 {R : Type} (L N : Nat) (k0_e0 : (List (List Int)) → Option R) : Nat → Int → Int → (List (List Move)) → (List (List Int)) → Option R
  | 0, _, _, _, _ => none
  | n + 1, s0, s1, s2, s3 => f124.s0 L N k0_e0 (f124.l0 L N k0_e0 n) s0 s1 s2 s3
def f124.T0 (s0 : Int) (s1 : Int) (s2 : (List (List Move))) (s3 : (List (List Int))) : T := mkT 21 [(1, (.ptr 1001 0)), (3, (.row 1005)), (8, (.tv i64 s0)), (9, (.tv i64 s1))]
def f124.H0 (s0 : Int) (s1 : Int) (s2 : (List (List Move))) (s3 : (List (List Int))) : H := [(1001, (.box [(.tv (.sl (.sl (.st 0))) s2)])), (1005, (.row 30 (.sl i64) s3))]
def f124.T0_e0 (z4 : (List (List Int))) : T := mkT 21 [(3, (.row 1005))]
def f124.H0_e0 (z4 : (List (List Int))) : H := [(1005, (.row 30 (.sl i64) z4))]
def f124.p0_e0' {R : Type} (L N : Nat) (k : (List (List Int)) → Option R) (z4 : (List (List Int))) : Option R :=
  k z4
def f124.p0_e0 {R : Type} (L N : Nat) (k : (List (List Int)) → Option R) (z4 : (List (List Int))) : Option R :=
  f124.p0_e0' L N k z4
def f124.b' {R : Type} (L N : Nat) (k : (List (List Int)) → Option R) (w0 : Int → Int → (List (List Move)) → (List (List Int)) → Option R) (x0 : Graph) : Option R :=
  w0 (x0.moves.length : Int) (0 : Int) x0.moves ([] : (List (List Int)))
def f124.b {R : Type} (L N : Nat) (k : (List (List Int)) → Option R) (x0 : Graph) : Option R :=
  f124.b' L N k (fun s0 s1 s2 s3 => f124.l0 L N (fun z4 => f124.p0_e0 L N k z4) L s0 s1 s2 s3) x0
def f124 (L N : Nat) (x0 : Graph) : Option ((List (List Int))) := f124.b L N some x0
def f124.ent (L N : Nat) (args : List AV) (vw : View) (site : Nat) : Ans := match coeD [(.st 2)] vw args with
  | some (d, u) => ⟨(List (List Int)), f124 L N d.1, fun y => ((.tv (.sl (.sl i64)) y), u, [])⟩
  | none => Ans.no
noncomputable def E124 (L N : Nat) : Env := { P := Try.prog, ty := tyOf, Φ := (Φ112 L N), inl := inlT, live := lives, liveX := livesX, L := L, dp := none, prom := promT, heal := healT, ren := renT }
noncomputable def f124.c0 : Code := loopAt 0 (codeOf Try.f124)
theorem f124.s0_pre {R : Type} (L N : Nat) (κ : Ex → T → H → Option R) (rec : T → H → Option R) (s0 : Int) (s1 : Int) (s2 : (List (List Move))) (s3 : (List (List Int))) :
    evRd (E124 L N) (evCallI (E124 L N) 1 2000) 1000 124 21 0 f124.c0 κ rec (f124.T0 s0 s1 s2 s3) (f124.H0 s0 s1 s2 s3)
    = f124.s0' L N (fun z4 => κ (.exit 0) (f124.T0_e0 z4) (f124.H0_e0 z4)) (fun s0 s1 s2 s3 => rec (f124.T0 s0 s1 s2 s3) (f124.H0 s0 s1 s2 s3)) s0 s1 s2 s3 := by kernel_rfl
theorem f124.s0_eq {R : Type} (L N : Nat) (κ : Ex → T → H → Option R) (rec : T → H → Option R) (s0 : Int) (s1 : Int) (s2 : (List (List Move))) (s3 : (List (List Int))) :
    evRd (E124 L N) (evCallI (E124 L N) 1 2000) 1000 124 21 0 f124.c0 κ rec (f124.T0 s0 s1 s2 s3) (f124.H0 s0 s1 s2 s3)
    = f124.s0 L N (fun z4 => κ (.exit 0) (f124.T0_e0 z4) (f124.H0_e0 z4)) (fun s0 s1 s2 s3 => rec (f124.T0 s0 s1 s2 s3) (f124.H0 s0 s1 s2 s3)) s0 s1 s2 s3 := by
  rw [f124.s0_pre]
  unfold f124.s0
  rfl
theorem f124.l0_eq {R : Type} (L N : Nat) (κ : Ex → T → H → Option R) : ∀ (n : Nat) (s0 : Int) (s1 : Int) (s2 : (List (List Move))) (s3 : (List (List Int))),
    evLp (E124 L N) (evCallI (E124 L N) 1 2000) 1000 124 21 0 f124.c0 κ n (f124.T0 s0 s1 s2 s3) (f124.H0 s0 s1 s2 s3)
    = f124.l0 L N (fun z4 => κ (.exit 0) (f124.T0_e0 z4) (f124.H0_e0 z4)) n s0 s1 s2 s3 := by
  intro n
  induction n with
  | zero => intros; rfl
  | succ n ih =>
    intro s0 s1 s2 s3
    rw [evLp_succ, f124.s0_eq]
    simp only [ih]
    rfl
theorem f124.p0_e0_pre {R : Type} (L N : Nat) (κ : AV → Option R) (z4 : (List (List Int))) :
    (contAt (E124 L N) (evCallI (E124 L N) 1 2000) 1000 124 21 0 (codeOf Try.f124) (finK (E124 L N) 1000 Try.f124 (finC (.one (.sl (.sl i64))) κ))) (.exit 0) (f124.T0_e0 z4) (f124.H0_e0 z4)
    = f124.p0_e0' L N (fun a0 => κ (.tv (.sl (.sl i64)) a0)) z4 := by kernel_rfl
theorem f124.p0_e0_eq {R : Type} (L N : Nat) (κ : AV → Option R) (z4 : (List (List Int))) :
    (contAt (E124 L N) (evCallI (E124 L N) 1 2000) 1000 124 21 0 (codeOf Try.f124) (finK (E124 L N) 1000 Try.f124 (finC (.one (.sl (.sl i64))) κ))) (.exit 0) (f124.T0_e0 z4) (f124.H0_e0 z4)
    = f124.p0_e0 L N (fun a0 => κ (.tv (.sl (.sl i64)) a0)) z4 := by
  rw [f124.p0_e0_pre]
  unfold f124.p0_e0
  rfl
theorem f124.b_pre {R : Type} (L N : Nat) (κ : AV → Option R) (x0 : Graph) :
    evBody (E124 L N) (evCallI (E124 L N) 1 2000) 1000 124 Try.f124 [(.tv (.st 2) x0)] [] [] (finC (.one (.sl (.sl i64))) κ)
    = f124.b' L N (fun a0 => κ (.tv (.sl (.sl i64)) a0)) (fun s0 s1 s2 s3 => evLp (E124 L N) (evCallI (E124 L N) 1 2000) 1000 124 21 0 f124.c0 (contAt (E124 L N) (evCallI (E124 L N) 1 2000) 1000 124 21 0 (codeOf Try.f124) (finK (E124 L N) 1000 Try.f124 (finC (.one (.sl (.sl i64))) κ))) L (f124.T0 s0 s1 s2 s3) (f124.H0 s0 s1 s2 s3)) x0 := by kernel_rfl
theorem f124.b_eq {R : Type} (L N : Nat) (κ : AV → Option R) (x0 : Graph) :
    evBody (E124 L N) (evCallI (E124 L N) 1 2000) 1000 124 Try.f124 [(.tv (.st 2) x0)] [] [] (finC (.one (.sl (.sl i64))) κ)
    = f124.b L N (fun a0 => κ (.tv (.sl (.sl i64)) a0)) x0 := by
  rw [f124.b_pre]
  unfold f124.b
  simp only [f124.l0_eq, f124.p0_e0_eq]
theorem f124.s0'_nat {R R' : Type} (j : R → Option R') (L N : Nat) (k0_e0 : (List (List Int)) → Option R) (rec0 : Int → Int → (List (List Move)) → (List (List Int)) → Option R) (s0 : Int) (s1 : Int) (s2 : (List (List Move))) (s3 : (List (List Int))) :
    f124.s0' L N (fun a0 => (k0_e0 a0).bind j) (fun a0 a1 a2 a3 => (rec0 a0 a1 a2 a3).bind j) s0 s1 s2 s3 = (f124.s0' L N k0_e0 rec0 s0 s1 s2 s3).bind j := by
  unfold f124.s0'
  repeat' (first | (with_reducible refine cond_nat ?_ ?_) | (with_reducible refine bind_nat fun _ => ?_) | rfl)
theorem f124.s0_nat {R R' : Type} (j : R → Option R') (L N : Nat) (k0_e0 : (List (List Int)) → Option R) (rec0 : Int → Int → (List (List Move)) → (List (List Int)) → Option R) (s0 : Int) (s1 : Int) (s2 : (List (List Move))) (s3 : (List (List Int))) :
    f124.s0 L N (fun a0 => (k0_e0 a0).bind j) (fun a0 a1 a2 a3 => (rec0 a0 a1 a2 a3).bind j) s0 s1 s2 s3 = (f124.s0 L N k0_e0 rec0 s0 s1 s2 s3).bind j := by
  unfold f124.s0
  exact f124.s0'_nat ..
theorem f124.l0_nat {R R' : Type} (j : R → Option R') (L N : Nat) (k0_e0 : (List (List Int)) → Option R) : ∀ (n : Nat) (s0 : Int) (s1 : Int) (s2 : (List (List Move))) (s3 : (List (List Int))),
    f124.l0 L N (fun a0 => (k0_e0 a0).bind j) n s0 s1 s2 s3 = (f124.l0 L N k0_e0 n s0 s1 s2 s3).bind j := by
  intro n
  induction n with
  | zero => intros; rfl
  | succ n ih =>
    intro s0 s1 s2 s3
    show f124.s0 L N (fun a0 => (k0_e0 a0).bind j) (f124.l0 L N (fun a0 => (k0_e0 a0).bind j) n) s0 s1 s2 s3 = _
    rw [show f124.l0 L N (fun a0 => (k0_e0 a0).bind j) n = (fun s0 s1 s2 s3 => (f124.l0 L N k0_e0 n s0 s1 s2 s3).bind j) from funext fun s0 => funext fun s1 => funext fun s2 => funext fun s3 => ih s0 s1 s2 s3]
    exact f124.s0_nat ..
theorem f124.p0_e0'_nat {R R' : Type} (j : R → Option R') (L N : Nat) (k : (List (List Int)) → Option R) (z4 : (List (List Int))) :
    f124.p0_e0' L N (fun a0 => (k a0).bind j) z4 = (f124.p0_e0' L N k z4).bind j := by
  unfold f124.p0_e0'
  repeat' (first | (with_reducible refine cond_nat ?_ ?_) | (with_reducible refine bind_nat fun _ => ?_) | rfl)
theorem f124.p0_e0_nat {R R' : Type} (j : R → Option R') (L N : Nat) (k : (List (List Int)) → Option R) (z4 : (List (List Int))) :
    f124.p0_e0 L N (fun a0 => (k a0).bind j) z4 = (f124.p0_e0 L N k z4).bind j := by
  unfold f124.p0_e0
  exact f124.p0_e0'_nat ..
theorem f124.b'_nat {R R' : Type} (j : R → Option R') (L N : Nat) (k : (List (List Int)) → Option R) (w0 : Int → Int → (List (List Move)) → (List (List Int)) → Option R) (x0 : Graph) :
    f124.b' L N (fun a0 => (k a0).bind j) (fun a0 a1 a2 a3 => (w0 a0 a1 a2 a3).bind j) x0 = (f124.b' L N k w0 x0).bind j := by
  unfold f124.b'
  repeat' (first | (with_reducible refine cond_nat ?_ ?_) | (with_reducible refine bind_nat fun _ => ?_) | rfl)
theorem f124.b_nat {R R' : Type} (j : R → Option R') (L N : Nat) (k : (List (List Int)) → Option R) (x0 : Graph) :
    f124.b L N (fun a0 => (k a0).bind j) x0 = (f124.b L N k x0).bind j := by
  unfold f124.b
  simp only [f124.l0_nat, f124.p0_e0_nat]
  exact f124.b'_nat ..
theorem f124.ok (L N : Nat) (hΦ : TellsOk Try.prog ((Φ112 L N))) : EntOk Try.prog 124 (f124.ent L N) := by
  intro args vw site h
  unfold f124.ent
  split
  · rename_i d u ha
    intro y hy hs
    refine call_data (dep := 1000) (E := (E124 L N)) (rs := (.one (.sl (.sl i64)))) (v' := (.tv (.sl (.sl i64)) y)) (sound_of hΦ) okP (callI_sound (sound_of hΦ) okP 1 2000) (f := Try.f124) rfl hs ha ?_ site
    refine (f124.b_eq L N some d.1).trans ?_
    refine ((f124.b_nat (fun y => (some (.tv (.sl (.sl i64)) y) : Option AV)) L N some d.1)).trans ?_
    rw [show f124.b L N some d.1 = some y from hy]
    rfl
  · intro y hy
    cases hy
def Φ124 (L N : Nat) : Tells := (addT (Φ112 L N) 124 (f124.ent L N))
theorem Φ124_ok (L N : Nat) : TellsOk Try.prog (Φ124 L N) := addT_ok (Φ112_ok L N) (f124.ok L N (Φ112_ok L N))
def f88.s3' {R : Type} (L N : Nat) (k3_e6 : (List (List Int)) → Int → Int → (List Int) → Int → Int → (List Move) → Int → Int → (List (List Move)) → (List Move) → (List (List Move)) → (List (List Move)) → Option R) (rec3 : (List (List Int)) → Int → Int → (List Int) → Int → Int → (List Move) → Int → Int → (List Int) → Int → Int → (List (List Move)) → Int → Int → (List Move) → (List (List Move)) → (List (List Move)) → Option R) (s49 : (List (List Int))) (s50 : Int) (s51 : Int) (s52 : (List Int)) (s53 : Int) (s54 : Int) (s55 : (List Move)) (s56 : Int) (s57 : Int) (s58 : (List Int)) (s59 : Int) (s60 : Int) (s61 : (List (List Move))) (s62 : Int) (s63 : Int) (s64 : (List Move)) (s65 : (List (List Move))) (s66 : (List (List Move))) : Option R :=
  bif (decide (s60 < s59)) then
    bif (decide (0 ≤ s60) && decide (s60 < (s58.length : Int))) then
      bif (decide (s64.length + ([(Move.mk s62 (listAt s58 (0 : Int) s60.toNat))] : (List Move)).length ≤ lim)) then
        rec3 s49 s50 s51 s52 s53 s54 s55 s56 s57 s58 s59 (wi (s60 + (1 : Int))) s61 s62 s63 (s64 ++ ([(Move.mk s62 (listAt s58 (0 : Int) s60.toNat))] : (List Move))) s65 s66
      else none
    else none
  else k3_e6 s49 s50 s51 s52 s53 s54 s55 s56 s57 s61 s64 s65 s66
def f88.s3 {R : Type} (L N : Nat) (k3_e6 : (List (List Int)) → Int → Int → (List Int) → Int → Int → (List Move) → Int → Int → (List (List Move)) → (List Move) → (List (List Move)) → (List (List Move)) → Option R) (rec3 : (List (List Int)) → Int → Int → (List Int) → Int → Int → (List Move) → Int → Int → (List Int) → Int → Int → (List (List Move)) → Int → Int → (List Move) → (List (List Move)) → (List (List Move)) → Option R) (s49 : (List (List Int))) (s50 : Int) (s51 : Int) (s52 : (List Int)) (s53 : Int) (s54 : Int) (s55 : (List Move)) (s56 : Int) (s57 : Int) (s58 : (List Int)) (s59 : Int) (s60 : Int) (s61 : (List (List Move))) (s62 : Int) (s63 : Int) (s64 : (List Move)) (s65 : (List (List Move))) (s66 : (List (List Move))) : Option R :=
  f88.s3' L N k3_e6 rec3 s49 s50 s51 s52 s53 s54 s55 s56 s57 s58 s59 s60 s61 s62 s63 s64 s65 s66
def f88.l3 {R : Type} (L N : Nat) (k3_e6 : (List (List Int)) → Int → Int → (List Int) → Int → Int → (List Move) → Int → Int → (List (List Move)) → (List Move) → (List (List Move)) → (List (List Move)) → Option R) : Nat → (List (List Int)) → Int → Int → (List Int) → Int → Int → (List Move) → Int → Int → (List Int) → Int → Int → (List (List Move)) → Int → Int → (List Move) → (List (List Move)) → (List (List Move)) → Option R
  | 0, _, _, _, _, _, _, _, _, _, _, _, _, _, _, _, _, _, _ => none
  | n + 1, s49, s50, s51, s52, s53, s54, s55, s56, s57, s58, s59, s60, s61, s62, s63, s64, s65, s66 => f88.s3 L N k3_e6 (f88.l3 L N k3_e6 n) s49 s50 s51 s52 s53 s54 s55 s56 s57 s58 s59 s60 s61 s62 s63 s64 s65 s66
def f88.T3 (s49 : (List (List Int))) (s50 : Int) (s51 : Int) (s52 : (List Int)) (s53 : Int) (s54 : Int) (s55 : (List Move)) (s56 : Int) (s57 : Int) (s58 : (List Int)) (s59 : Int) (s60 : Int) (s61 : (List (List Move))) (s62 : Int) (s63 : Int) (s64 : (List Move)) (s65 : (List (List Move))) (s66 : (List (List Move))) : T := mkT 79 [(1, (.ptr 1001 0)), (2, (.ptr 1002 0)), (3, (.tv (.sl (.sl i64)) s49)), (4, (.ptr 1004 0)), (6, (.row 1022)), (10, (.ptr 1010 0)), (18, (.tv i64 s50)), (19, (.tv i64 s51)), (26, (.tv (.sl i64) s52)), (27, (.tv i64 s53)), (28, (.tv i64 s54)), (41, (.tv (.sl (.st 0)) s55)), (42, (.tv i64 s56)), (43, (.tv i64 s57)), (54, (.tv (.sl i64) s58)), (55, (.tv i64 s59)), (56, (.tv i64 s60))]
def f88.H3 (s49 : (List (List Int))) (s50 : Int) (s51 : Int) (s52 : (List Int)) (s53 : Int) (s54 : Int) (s55 : (List Move)) (s56 : Int) (s57 : Int) (s58 : (List Int)) (s59 : Int) (s60 : Int) (s61 : (List (List Move))) (s62 : Int) (s63 : Int) (s64 : (List Move)) (s65 : (List (List Move))) (s66 : (List (List Move))) : H := [(1001, (.box [(.tv (.sl (.sl (.st 0))) s61)])), (1002, (.box [(.row 1900)])), (1004, (.box [(.row 1901)])), (1010, (.box [(.tv i64 s62), (.tv i64 s63)])), (1022, (.row 53 (.st 0) s64)), (1900, (.deep 0 (.sl (.st 0)) s65 none)), (1901, (.deep 0 (.sl (.st 0)) s66 none))]
def f88.T3_e6 (z67 : (List (List Int))) (z68 : Int) (z69 : Int) (z70 : (List Int)) (z71 : Int) (z72 : Int) (z73 : (List Move)) (z74 : Int) (z75 : Int) (z76 : (List (List Move))) (z77 : (List Move)) (z78 : (List (List Move))) (z79 : (List (List Move))) : T := mkT 79 [(1, (.ptr 1001 0)), (2, (.ptr 1002 0)), (3, (.tv (.sl (.sl i64)) z67)), (4, (.ptr 1004 0)), (6, (.row 1022)), (18, (.tv i64 z68)), (19, (.tv i64 z69)), (26, (.tv (.sl i64) z70)), (27, (.tv i64 z71)), (28, (.tv i64 z72)), (41, (.tv (.sl (.st 0)) z73)), (42, (.tv i64 z74)), (43, (.tv i64 z75))]
def f88.H3_e6 (z67 : (List (List Int))) (z68 : Int) (z69 : Int) (z70 : (List Int)) (z71 : Int) (z72 : Int) (z73 : (List Move)) (z74 : Int) (z75 : Int) (z76 : (List (List Move))) (z77 : (List Move)) (z78 : (List (List Move))) (z79 : (List (List Move))) : H := [(1001, (.box [(.tv (.sl (.sl (.st 0))) z76)])), (1002, (.box [(.row 1900)])), (1004, (.box [(.row 1901)])), (1022, (.row 53 (.st 0) z77)), (1900, (.deep 0 (.sl (.st 0)) z78 none)), (1901, (.deep 0 (.sl (.st 0)) z79 none))]
def f88.p3_e6' {R : Type} (L N : Nat) (k2_e4 : (List (List Int)) → Int → Int → (List Int) → Int → Int → (List (List Move)) → (List Move) → (List (List Move)) → (List (List Move)) → Option R) (rec2 : (List (List Int)) → Int → Int → (List Int) → Int → Int → (List Move) → Int → Int → (List (List Move)) → (List Move) → (List (List Move)) → (List (List Move)) → Option R) (z67 : (List (List Int))) (z68 : Int) (z69 : Int) (z70 : (List Int)) (z71 : Int) (z72 : Int) (z73 : (List Move)) (z74 : Int) (z75 : Int) (z76 : (List (List Move))) (z77 : (List Move)) (z78 : (List (List Move))) (z79 : (List (List Move))) : Option R :=
  rec2 z67 z68 z69 z70 z71 z72 z73 z74 (wi (z75 + (1 : Int))) z76 z77 z78 z79
def f88.p3_e6 {R : Type} (L N : Nat) (k2_e4 : (List (List Int)) → Int → Int → (List Int) → Int → Int → (List (List Move)) → (List Move) → (List (List Move)) → (List (List Move)) → Option R) (rec2 : (List (List Int)) → Int → Int → (List Int) → Int → Int → (List Move) → Int → Int → (List (List Move)) → (List Move) → (List (List Move)) → (List (List Move)) → Option R) (z67 : (List (List Int))) (z68 : Int) (z69 : Int) (z70 : (List Int)) (z71 : Int) (z72 : Int) (z73 : (List Move)) (z74 : Int) (z75 : Int) (z76 : (List (List Move))) (z77 : (List Move)) (z78 : (List (List Move))) (z79 : (List (List Move))) : Option R :=
  f88.p3_e6' L N k2_e4 rec2 z67 z68 z69 z70 z71 z72 z73 z74 z75 z76 z77 z78 z79
def f88.s2' {R : Type} (L N : Nat) (k2_e4 : (List (List Int)) → Int → Int → (List Int) → Int → Int → (List (List Move)) → (List Move) → (List (List Move)) → (List (List Move)) → Option R) (rec2 : (List (List Int)) → Int → Int → (List Int) → Int → Int → (List Move) → Int → Int → (List (List Move)) → (List Move) → (List (List Move)) → (List (List Move)) → Option R) (w3 : (List (List Int)) → Int → Int → (List Int) → Int → Int → (List Move) → Int → Int → (List Int) → Int → Int → (List (List Move)) → Int → Int → (List Move) → (List (List Move)) → (List (List Move)) → Option R) (s26 : (List (List Int))) (s27 : Int) (s28 : Int) (s29 : (List Int)) (s30 : Int) (s31 : Int) (s32 : (List Move)) (s33 : Int) (s34 : Int) (s35 : (List (List Move))) (s36 : (List Move)) (s37 : (List (List Move))) (s38 : (List (List Move))) : Option R :=
  bif (decide (s34 < s33)) then
    bif (decide (0 ≤ s34) && decide (s34 < (s32.length : Int))) then
      bif ((listAt s32 (Ty.dflt (.st 0)) s34.toNat).act != (0 : Int)) then
        bif (decide (0 ≤ (listAt s32 (Ty.dflt (.st 0)) s34.toNat).to) && decide ((listAt s32 (Ty.dflt (.st 0)) s34.toNat).to < (s26.length : Int))) then
          w3 s26 s27 s28 s29 s30 s31 s32 s33 s34 (listAt s26 [] ((listAt s32 (Ty.dflt (.st 0)) s34.toNat).to).toNat) ((listAt s26 [] ((listAt s32 (Ty.dflt (.st 0)) s34.toNat).to).toNat).length : Int) (0 : Int) s35 ((listAt s32 (Ty.dflt (.st 0)) s34.toNat).act) ((listAt s32 (Ty.dflt (.st 0)) s34.toNat).to) s36 s37 s38
        else none
      else rec2 s26 s27 s28 s29 s30 s31 s32 s33 (wi (s34 + (1 : Int))) s35 s36 s37 s38
    else none
  else k2_e4 s26 s27 s28 s29 s30 s31 s35 s36 s37 s38
def f88.s2 {R : Type} (L N : Nat) (k2_e4 : (List (List Int)) → Int → Int → (List Int) → Int → Int → (List (List Move)) → (List Move) → (List (List Move)) → (List (List Move)) → Option R) (rec2 : (List (List Int)) → Int → Int → (List Int) → Int → Int → (List Move) → Int → Int → (List (List Move)) → (List Move) → (List (List Move)) → (List (List Move)) → Option R) (s26 : (List (List Int))) (s27 : Int) (s28 : Int) (s29 : (List Int)) (s30 : Int) (s31 : Int) (s32 : (List Move)) (s33 : Int) (s34 : Int) (s35 : (List (List Move))) (s36 : (List Move)) (s37 : (List (List Move))) (s38 : (List (List Move))) : Option R :=
  f88.s2' L N k2_e4 rec2 (fun s49 s50 s51 s52 s53 s54 s55 s56 s57 s58 s59 s60 s61 s62 s63 s64 s65 s66 => f88.l3 L N (fun z67 z68 z69 z70 z71 z72 z73 z74 z75 z76 z77 z78 z79 => f88.p3_e6 L N k2_e4 rec2 z67 z68 z69 z70 z71 z72 z73 z74 z75 z76 z77 z78 z79) L s49 s50 s51 s52 s53 s54 s55 s56 s57 s58 s59 s60 s61 s62 s63 s64 s65 s66) s26 s27 s28 s29 s30 s31 s32 s33 s34 s35 s36 s37 s38
def f88.l2 {R : Type} (L N : Nat) (k2_e4 : (List (List Int)) → Int → Int → (List Int) → Int → Int → (List (List Move)) → (List Move) → (List (List Move)) → (List (List Move)) → Option R) : Nat → (List (List Int)) → Int → Int → (List Int) → Int → Int → (List Move) → Int → Int → (List (List Move)) → (List Move) → (List (List Move)) → (List (List Move)) → Option R
  | 0, _, _, _, _, _, _, _, _, _, _, _, _, _ => none
  | n + 1, s26, s27, s28, s29, s30, s31, s32, s33, s34, s35, s36, s37, s38 => f88.s2 L N k2_e4 (f88.l2 L N k2_e4 n) s26 s27 s28 s29 s30 s31 s32 s33 s34 s35 s36 s37 s38
def f88.T2 (s26 : (List (List Int))) (s27 : Int) (s28 : Int) (s29 : (List Int)) (s30 : Int) (s31 : Int) (s32 : (List Move)) (s33 : Int) (s34 : Int) (s35 : (List (List Move))) (s36 : (List Move)) (s37 : (List (List Move))) (s38 : (List (List Move))) : T := mkT 79 [(1, (.ptr 1001 0)), (2, (.ptr 1002 0)), (3, (.tv (.sl (.sl i64)) s26)), (4, (.ptr 1004 0)), (6, (.row 1022)), (18, (.tv i64 s27)), (19, (.tv i64 s28)), (26, (.tv (.sl i64) s29)), (27, (.tv i64 s30)), (28, (.tv i64 s31)), (41, (.tv (.sl (.st 0)) s32)), (42, (.tv i64 s33)), (43, (.tv i64 s34))]
def f88.H2 (s26 : (List (List Int))) (s27 : Int) (s28 : Int) (s29 : (List Int)) (s30 : Int) (s31 : Int) (s32 : (List Move)) (s33 : Int) (s34 : Int) (s35 : (List (List Move))) (s36 : (List Move)) (s37 : (List (List Move))) (s38 : (List (List Move))) : H := [(1001, (.box [(.tv (.sl (.sl (.st 0))) s35)])), (1002, (.box [(.row 1900)])), (1004, (.box [(.row 1901)])), (1022, (.row 53 (.st 0) s36)), (1900, (.deep 0 (.sl (.st 0)) s37 none)), (1901, (.deep 0 (.sl (.st 0)) s38 none))]
def f88.T2_e4 (z39 : (List (List Int))) (z40 : Int) (z41 : Int) (z42 : (List Int)) (z43 : Int) (z44 : Int) (z45 : (List (List Move))) (z46 : (List Move)) (z47 : (List (List Move))) (z48 : (List (List Move))) : T := mkT 79 [(1, (.ptr 1001 0)), (2, (.ptr 1002 0)), (3, (.tv (.sl (.sl i64)) z39)), (4, (.ptr 1004 0)), (6, (.row 1022)), (18, (.tv i64 z40)), (19, (.tv i64 z41)), (26, (.tv (.sl i64) z42)), (27, (.tv i64 z43)), (28, (.tv i64 z44))]
def f88.H2_e4 (z39 : (List (List Int))) (z40 : Int) (z41 : Int) (z42 : (List Int)) (z43 : Int) (z44 : Int) (z45 : (List (List Move))) (z46 : (List Move)) (z47 : (List (List Move))) (z48 : (List (List Move))) : H := [(1001, (.box [(.tv (.sl (.sl (.st 0))) z45)])), (1002, (.box [(.row 1900)])), (1004, (.box [(.row 1901)])), (1022, (.row 53 (.st 0) z46)), (1900, (.deep 0 (.sl (.st 0)) z47 none)), (1901, (.deep 0 (.sl (.st 0)) z48 none))]
def f88.p2_e4' {R : Type} (L N : Nat) (k1_e2 : (List (List Int)) → Int → Int → (List (List Move)) → (List Move) → (List (List Move)) → (List (List Move)) → Option R) (rec1 : (List (List Int)) → Int → Int → (List Int) → Int → Int → (List (List Move)) → (List Move) → (List (List Move)) → (List (List Move)) → Option R) (z39 : (List (List Int))) (z40 : Int) (z41 : Int) (z42 : (List Int)) (z43 : Int) (z44 : Int) (z45 : (List (List Move))) (z46 : (List Move)) (z47 : (List (List Move))) (z48 : (List (List Move))) : Option R :=
  rec1 z39 z40 z41 z42 z43 (wi (z44 + (1 : Int))) z45 z46 z47 z48
def f88.p2_e4 {R : Type} (L N : Nat) (k1_e2 : (List (List Int)) → Int → Int → (List (List Move)) → (List Move) → (List (List Move)) → (List (List Move)) → Option R) (rec1 : (List (List Int)) → Int → Int → (List Int) → Int → Int → (List (List Move)) → (List Move) → (List (List Move)) → (List (List Move)) → Option R) (z39 : (List (List Int))) (z40 : Int) (z41 : Int) (z42 : (List Int)) (z43 : Int) (z44 : Int) (z45 : (List (List Move))) (z46 : (List Move)) (z47 : (List (List Move))) (z48 : (List (List Move))) : Option R :=
  f88.p2_e4' L N k1_e2 rec1 z39 z40 z41 z42 z43 z44 z45 z46 z47 z48
def f88.s1' {R : Type} (L N : Nat) (k1_e2 : (List (List Int)) → Int → Int → (List (List Move)) → (List Move) → (List (List Move)) → (List (List Move)) → Option R) (rec1 : (List (List Int)) → Int → Int → (List Int) → Int → Int → (List (List Move)) → (List Move) → (List (List Move)) → (List (List Move)) → Option R) (w2 : (List (List Int)) → Int → Int → (List Int) → Int → Int → (List Move) → Int → Int → (List (List Move)) → (List Move) → (List (List Move)) → (List (List Move)) → Option R) (s9 : (List (List Int))) (s10 : Int) (s11 : Int) (s12 : (List Int)) (s13 : Int) (s14 : Int) (s15 : (List (List Move))) (s16 : (List Move)) (s17 : (List (List Move))) (s18 : (List (List Move))) : Option R :=
  bif (decide (s14 < s13)) then
    bif (decide (0 ≤ s14) && decide (s14 < (s12.length : Int))) then
      bif (decide (s16.length + ([(Move.mk (0 : Int) (listAt s12 (0 : Int) s14.toNat))] : (List Move)).length ≤ lim)) then
        bif (decide (0 ≤ (listAt s12 (0 : Int) s14.toNat)) && decide ((listAt s12 (0 : Int) s14.toNat) < (s15.length : Int))) then
          w2 s9 s10 s11 s12 s13 s14 (listAt s15 [] (listAt s12 (0 : Int) s14.toNat).toNat) ((listAt s15 [] (listAt s12 (0 : Int) s14.toNat).toNat).length : Int) (0 : Int) s15 (s16 ++ ([(Move.mk (0 : Int) (listAt s12 (0 : Int) s14.toNat))] : (List Move))) s17 s18
        else none
      else none
    else none
  else k1_e2 s9 s10 s11 s15 s16 s17 s18
def f88.s1 {R : Type} (L N : Nat) (k1_e2 : (List (List Int)) → Int → Int → (List (List Move)) → (List Move) → (List (List Move)) → (List (List Move)) → Option R) (rec1 : (List (List Int)) → Int → Int → (List Int) → Int → Int → (List (List Move)) → (List Move) → (List (List Move)) → (List (List Move)) → Option R) (s9 : (List (List Int))) (s10 : Int) (s11 : Int) (s12 : (List Int)) (s13 : Int) (s14 : Int) (s15 : (List (List Move))) (s16 : (List Move)) (s17 : (List (List Move))) (s18 : (List (List Move))) : Option R :=
  f88.s1' L N k1_e2 rec1 (fun s26 s27 s28 s29 s30 s31 s32 s33 s34 s35 s36 s37 s38 => f88.l2 L N (fun z39 z40 z41 z42 z43 z44 z45 z46 z47 z48 => f88.p2_e4 L N k1_e2 rec1 z39 z40 z41 z42 z43 z44 z45 z46 z47 z48) L s26 s27 s28 s29 s30 s31 s32 s33 s34 s35 s36 s37 s38) s9 s10 s11 s12 s13 s14 s15 s16 s17 s18
def f88.l1 {R : Type} (L N : Nat) (k1_e2 : (List (List Int)) → Int → Int → (List (List Move)) → (List Move) → (List (List Move)) → (List (List Move)) → Option R) : Nat → (List (List Int)) → Int → Int → (List Int) → Int → Int → (List (List Move)) → (List Move) → (List (List Move)) → (List (List Move)) → Option R
  | 0, _, _, _, _, _, _, _, _, _, _ => none
  | n + 1, s9, s10, s11, s12, s13, s14, s15, s16, s17, s18 => f88.s1 L N k1_e2 (f88.l1 L N k1_e2 n) s9 s10 s11 s12 s13 s14 s15 s16 s17 s18
def f88.T1 (s9 : (List (List Int))) (s10 : Int) (s11 : Int) (s12 : (List Int)) (s13 : Int) (s14 : Int) (s15 : (List (List Move))) (s16 : (List Move)) (s17 : (List (List Move))) (s18 : (List (List Move))) : T := mkT 79 [(1, (.ptr 1001 0)), (2, (.ptr 1002 0)), (3, (.tv (.sl (.sl i64)) s9)), (4, (.ptr 1004 0)), (6, (.row 1022)), (18, (.tv i64 s10)), (19, (.tv i64 s11)), (26, (.tv (.sl i64) s12)), (27, (.tv i64 s13)), (28, (.tv i64 s14))]
def f88.H1 (s9 : (List (List Int))) (s10 : Int) (s11 : Int) (s12 : (List Int)) (s13 : Int) (s14 : Int) (s15 : (List (List Move))) (s16 : (List Move)) (s17 : (List (List Move))) (s18 : (List (List Move))) : H := [(1001, (.box [(.tv (.sl (.sl (.st 0))) s15)])), (1002, (.box [(.row 1900)])), (1004, (.box [(.row 1901)])), (1022, (.row 53 (.st 0) s16)), (1900, (.deep 0 (.sl (.st 0)) s17 none)), (1901, (.deep 0 (.sl (.st 0)) s18 none))]
def f88.T1_e2 (z19 : (List (List Int))) (z20 : Int) (z21 : Int) (z22 : (List (List Move))) (z23 : (List Move)) (z24 : (List (List Move))) (z25 : (List (List Move))) : T := mkT 79 [(1, (.ptr 1001 0)), (2, (.ptr 1002 0)), (3, (.tv (.sl (.sl i64)) z19)), (4, (.ptr 1004 0)), (6, (.row 1022)), (18, (.tv i64 z20)), (19, (.tv i64 z21))]
def f88.H1_e2 (z19 : (List (List Int))) (z20 : Int) (z21 : Int) (z22 : (List (List Move))) (z23 : (List Move)) (z24 : (List (List Move))) (z25 : (List (List Move))) : H := [(1001, (.box [(.tv (.sl (.sl (.st 0))) z22)])), (1002, (.box [(.row 1900)])), (1004, (.box [(.row 1901)])), (1022, (.row 53 (.st 0) z23)), (1900, (.deep 0 (.sl (.st 0)) z24 none)), (1901, (.deep 0 (.sl (.st 0)) z25 none))]
def f88.p1_e2' {R : Type} (L N : Nat) (k0_e0 : (List (List Move)) → (List (List Move)) → Option R) (rec0 : (List (List Int)) → Int → Int → (List (List Move)) → (List (List Move)) → (List (List Move)) → Option R) (z19 : (List (List Int))) (z20 : Int) (z21 : Int) (z22 : (List (List Move))) (z23 : (List Move)) (z24 : (List (List Move))) (z25 : (List (List Move))) : Option R :=
  ((fsortM z23)).bind fun y93 =>
  bif (decide (z25.length + ([(tidyM z23)] : (List (List Move))).length ≤ lim)) then
    rec0 z19 z20 (wi (z21 + (1 : Int))) z22 z24 (z25 ++ ([(tidyM z23)] : (List (List Move))))
  else none
def f88.p1_e2 {R : Type} (L N : Nat) (k0_e0 : (List (List Move)) → (List (List Move)) → Option R) (rec0 : (List (List Int)) → Int → Int → (List (List Move)) → (List (List Move)) → (List (List Move)) → Option R) (z19 : (List (List Int))) (z20 : Int) (z21 : Int) (z22 : (List (List Move))) (z23 : (List Move)) (z24 : (List (List Move))) (z25 : (List (List Move))) : Option R :=
  f88.p1_e2' L N k0_e0 rec0 z19 z20 z21 z22 z23 z24 z25
def f88.s0' {R : Type} (L N : Nat) (k0_e0 : (List (List Move)) → (List (List Move)) → Option R) (rec0 : (List (List Int)) → Int → Int → (List (List Move)) → (List (List Move)) → (List (List Move)) → Option R) (w1 : (List (List Int)) → Int → Int → (List Int) → Int → Int → (List (List Move)) → (List Move) → (List (List Move)) → (List (List Move)) → Option R) (s1 : (List (List Int))) (s2 : Int) (s3 : Int) (s4 : (List (List Move))) (s5 : (List (List Move))) (s6 : (List (List Move))) : Option R :=
  bif (decide (s3 < s2)) then
    bif (decide (0 ≤ s3) && decide (s3 < (s1.length : Int))) then
      w1 s1 s2 s3 (listAt s1 [] s3.toNat) ((listAt s1 [] s3.toNat).length : Int) (0 : Int) s4 ([] : (List Move)) s5 s6
    else none
  else k0_e0 s5 s6
def f88.s0 {R : Type} (L N : Nat) (k0_e0 : (List (List Move)) → (List (List Move)) → Option R) (rec0 : (List (List Int)) → Int → Int → (List (List Move)) → (List (List Move)) → (List (List Move)) → Option R) (s1 : (List (List Int))) (s2 : Int) (s3 : Int) (s4 : (List (List Move))) (s5 : (List (List Move))) (s6 : (List (List Move))) : Option R :=
  f88.s0' L N k0_e0 rec0 (fun s9 s10 s11 s12 s13 s14 s15 s16 s17 s18 => f88.l1 L N (fun z19 z20 z21 z22 z23 z24 z25 => f88.p1_e2 L N k0_e0 rec0 z19 z20 z21 z22 z23 z24 z25) L s9 s10 s11 s12 s13 s14 s15 s16 s17 s18) s1 s2 s3 s4 s5 s6
def f88.l0 {R : Type} (L N : Nat) (k0_e0 : (List (List Move)) → (List (List Move)) → Option R) : Nat → (List (List Int)) → Int → Int → (List (List Move)) → (List (List Move)) → (List (List Move)) → Option R
  | 0, _, _, _, _, _, _ => none
  | n + 1, s1, s2, s3, s4, s5, s6 => f88.s0 L N k0_e0 (f88.l0 L N k0_e0 n) s1 s2 s3 s4 s5 s6
def f88.T0 (s1 : (List (List Int))) (s2 : Int) (s3 : Int) (s4 : (List (List Move))) (s5 : (List (List Move))) (s6 : (List (List Move))) : T := mkT 79 [(1, (.ptr 1001 0)), (2, (.ptr 1002 0)), (3, (.tv (.sl (.sl i64)) s1)), (4, (.ptr 1004 0)), (18, (.tv i64 s2)), (19, (.tv i64 s3))]
def f88.H0 (s1 : (List (List Int))) (s2 : Int) (s3 : Int) (s4 : (List (List Move))) (s5 : (List (List Move))) (s6 : (List (List Move))) : H := [(1001, (.box [(.tv (.sl (.sl (.st 0))) s4)])), (1002, (.box [(.row 1900)])), (1004, (.box [(.row 1901)])), (1900, (.deep 0 (.sl (.st 0)) s5 none)), (1901, (.deep 0 (.sl (.st 0)) s6 none))]
def f88.T0_e0 (z7 : (List (List Move))) (z8 : (List (List Move))) : T := mkT 79 [(2, (.ptr 1002 0)), (4, (.ptr 1004 0))]
def f88.H0_e0 (z7 : (List (List Move))) (z8 : (List (List Move))) : H := [(1002, (.box [(.row 1900)])), (1004, (.box [(.row 1901)])), (1900, (.deep 0 (.sl (.st 0)) z7 none)), (1901, (.deep 0 (.sl (.st 0)) z8 none))]
def f88.p0_e0' {R : Type} (L N : Nat) (k : (List (List Move)) → Option R) (z7 : (List (List Move))) (z8 : (List (List Move))) : Option R :=
  k z8
def f88.p0_e0 {R : Type} (L N : Nat) (k : (List (List Move)) → Option R) (z7 : (List (List Move))) (z8 : (List (List Move))) : Option R :=
  f88.p0_e0' L N k z7 z8
def f88.b' {R : Type} (L N : Nat) (k : (List (List Move)) → Option R) (w0 : (List (List Int)) → Int → Int → (List (List Move)) → (List (List Move)) → (List (List Move)) → Option R) (x0 : Graph) : Option R :=
  (f124 L N (Graph.mk x0.moves)).bind fun y0 =>
  w0 y0 (x0.moves.length : Int) (0 : Int) x0.moves ([] : (List (List Move))) ([] : (List (List Move)))
def f88.b {R : Type} (L N : Nat) (k : (List (List Move)) → Option R) (x0 : Graph) : Option R :=
  f88.b' L N k (fun s1 s2 s3 s4 s5 s6 => f88.l0 L N (fun z7 z8 => f88.p0_e0 L N k z7 z8) L s1 s2 s3 s4 s5 s6) x0
def f88 (L N : Nat) (x0 : Graph) : Option ((List (List Move))) := f88.b L N some x0
def f88.ent (L N : Nat) (args : List AV) (vw : View) (site : Nat) : Ans := match roD [(.st 2)] vw args with
  | some d => ⟨(List (List Move)), f88 L N d.1, fun y => (RN.av site (.agg []) (()), [(site, some (mkO (some 0) 51 (.sl (.st 0)) y))], [])⟩
  | none => Ans.no
noncomputable def E88 (L N : Nat) : Env := { P := Try.prog, ty := tyOf, Φ := (Φ124 L N), inl := inlT, live := lives, liveX := livesX, L := L, dp := (some 0), prom := promT, heal := healT, ren := renT }
noncomputable def f88.c0 : Code := loopAt 0 (codeOf Try.f88)
noncomputable def f88.c1 : Code := loopAt 2 f88.c0
noncomputable def f88.c2 : Code := loopAt 4 f88.c1
noncomputable def f88.c3 : Code := loopAt 6 f88.c2
theorem f88.s3_pre {R : Type} (L N : Nat) (κ : Ex → T → H → Option R) (rec : T → H → Option R) (s49 : (List (List Int))) (s50 : Int) (s51 : Int) (s52 : (List Int)) (s53 : Int) (s54 : Int) (s55 : (List Move)) (s56 : Int) (s57 : Int) (s58 : (List Int)) (s59 : Int) (s60 : Int) (s61 : (List (List Move))) (s62 : Int) (s63 : Int) (s64 : (List Move)) (s65 : (List (List Move))) (s66 : (List (List Move))) :
    evRd (E88 L N) (evCallI (E88 L N) 1 2000) 1000 88 79 6 f88.c3 κ rec (f88.T3 s49 s50 s51 s52 s53 s54 s55 s56 s57 s58 s59 s60 s61 s62 s63 s64 s65 s66) (f88.H3 s49 s50 s51 s52 s53 s54 s55 s56 s57 s58 s59 s60 s61 s62 s63 s64 s65 s66)
    = f88.s3' L N (fun z67 z68 z69 z70 z71 z72 z73 z74 z75 z76 z77 z78 z79 => κ (.exit 6) (f88.T3_e6 z67 z68 z69 z70 z71 z72 z73 z74 z75 z76 z77 z78 z79) (f88.H3_e6 z67 z68 z69 z70 z71 z72 z73 z74 z75 z76 z77 z78 z79)) (fun s49 s50 s51 s52 s53 s54 s55 s56 s57 s58 s59 s60 s61 s62 s63 s64 s65 s66 => rec (f88.T3 s49 s50 s51 s52 s53 s54 s55 s56 s57 s58 s59 s60 s61 s62 s63 s64 s65 s66) (f88.H3 s49 s50 s51 s52 s53 s54 s55 s56 s57 s58 s59 s60 s61 s62 s63 s64 s65 s66)) s49 s50 s51 s52 s53 s54 s55 s56 s57 s58 s59 s60 s61 s62 s63 s64 s65 s66 := by kernel_rfl
theorem f88.s3_eq {R : Type} (L N : Nat) (κ : Ex → T → H → Option R) (rec : T → H → Option R) (s49 : (List (List Int))) (s50 : Int) (s51 : Int) (s52 : (List Int)) (s53 : Int) (s54 : Int) (s55 : (List Move)) (s56 : Int) (s57 : Int) (s58 : (List Int)) (s59 : Int) (s60 : Int) (s61 : (List (List Move))) (s62 : Int) (s63 : Int) (s64 : (List Move)) (s65 : (List (List Move))) (s66 : (List (List Move))) :
    evRd (E88 L N) (evCallI (E88 L N) 1 2000) 1000 88 79 6 f88.c3 κ rec (f88.T3 s49 s50 s51 s52 s53 s54 s55 s56 s57 s58 s59 s60 s61 s62 s63 s64 s65 s66) (f88.H3 s49 s50 s51 s52 s53 s54 s55 s56 s57 s58 s59 s60 s61 s62 s63 s64 s65 s66)
    = f88.s3 L N (fun z67 z68 z69 z70 z71 z72 z73 z74 z75 z76 z77 z78 z79 => κ (.exit 6) (f88.T3_e6 z67 z68 z69 z70 z71 z72 z73 z74 z75 z76 z77 z78 z79) (f88.H3_e6 z67 z68 z69 z70 z71 z72 z73 z74 z75 z76 z77 z78 z79)) (fun s49 s50 s51 s52 s53 s54 s55 s56 s57 s58 s59 s60 s61 s62 s63 s64 s65 s66 => rec (f88.T3 s49 s50 s51 s52 s53 s54 s55 s56 s57 s58 s59 s60 s61 s62 s63 s64 s65 s66) (f88.H3 s49 s50 s51 s52 s53 s54 s55 s56 s57 s58 s59 s60 s61 s62 s63 s64 s65 s66)) s49 s50 s51 s52 s53 s54 s55 s56 s57 s58 s59 s60 s61 s62 s63 s64 s65 s66 := by
  rw [f88.s3_pre]
  unfold f88.s3
  rfl
theorem f88.l3_eq {R : Type} (L N : Nat) (κ : Ex → T → H → Option R) : ∀ (n : Nat) (s49 : (List (List Int))) (s50 : Int) (s51 : Int) (s52 : (List Int)) (s53 : Int) (s54 : Int) (s55 : (List Move)) (s56 : Int) (s57 : Int) (s58 : (List Int)) (s59 : Int) (s60 : Int) (s61 : (List (List Move))) (s62 : Int) (s63 : Int) (s64 : (List Move)) (s65 : (List (List Move))) (s66 : (List (List Move))),
    evLp (E88 L N) (evCallI (E88 L N) 1 2000) 1000 88 79 6 f88.c3 κ n (f88.T3 s49 s50 s51 s52 s53 s54 s55 s56 s57 s58 s59 s60 s61 s62 s63 s64 s65 s66) (f88.H3 s49 s50 s51 s52 s53 s54 s55 s56 s57 s58 s59 s60 s61 s62 s63 s64 s65 s66)
    = f88.l3 L N (fun z67 z68 z69 z70 z71 z72 z73 z74 z75 z76 z77 z78 z79 => κ (.exit 6) (f88.T3_e6 z67 z68 z69 z70 z71 z72 z73 z74 z75 z76 z77 z78 z79) (f88.H3_e6 z67 z68 z69 z70 z71 z72 z73 z74 z75 z76 z77 z78 z79)) n s49 s50 s51 s52 s53 s54 s55 s56 s57 s58 s59 s60 s61 s62 s63 s64 s65 s66 := by
  intro n
  induction n with
  | zero => intros; rfl
  | succ n ih =>
    intro s49 s50 s51 s52 s53 s54 s55 s56 s57 s58 s59 s60 s61 s62 s63 s64 s65 s66
    rw [evLp_succ, f88.s3_eq]
    simp only [ih]
    rfl
theorem f88.p3_e6_pre {R : Type} (L N : Nat) (κ : Ex → T → H → Option R) (rec : T → H → Option R) (z67 : (List (List Int))) (z68 : Int) (z69 : Int) (z70 : (List Int)) (z71 : Int) (z72 : Int) (z73 : (List Move)) (z74 : Int) (z75 : Int) (z76 : (List (List Move))) (z77 : (List Move)) (z78 : (List (List Move))) (z79 : (List (List Move))) :
    (contAt (E88 L N) (evCallI (E88 L N) 1 2000) 1000 88 79 6 f88.c2 (stepK (outK (keepT 79 ((E88 L N).liveX 88 4).1) (keepH 1000 ((E88 L N).liveX 88 4).2) κ) fun t h => rec (backK 1000 79 ((E88 L N).live 88 4).1 ((E88 L N).live 88 4).2 ((E88 L N).heal 88 4) ((E88 L N).ren 88 4) t h).1 (backK 1000 79 ((E88 L N).live 88 4).1 ((E88 L N).live 88 4).2 ((E88 L N).heal 88 4) ((E88 L N).ren 88 4) t h).2)) (.exit 6) (f88.T3_e6 z67 z68 z69 z70 z71 z72 z73 z74 z75 z76 z77 z78 z79) (f88.H3_e6 z67 z68 z69 z70 z71 z72 z73 z74 z75 z76 z77 z78 z79)
    = f88.p3_e6' L N (fun z39 z40 z41 z42 z43 z44 z45 z46 z47 z48 => κ (.exit 4) (f88.T2_e4 z39 z40 z41 z42 z43 z44 z45 z46 z47 z48) (f88.H2_e4 z39 z40 z41 z42 z43 z44 z45 z46 z47 z48)) (fun s26 s27 s28 s29 s30 s31 s32 s33 s34 s35 s36 s37 s38 => rec (f88.T2 s26 s27 s28 s29 s30 s31 s32 s33 s34 s35 s36 s37 s38) (f88.H2 s26 s27 s28 s29 s30 s31 s32 s33 s34 s35 s36 s37 s38)) z67 z68 z69 z70 z71 z72 z73 z74 z75 z76 z77 z78 z79 := by kernel_rfl
theorem f88.p3_e6_eq {R : Type} (L N : Nat) (κ : Ex → T → H → Option R) (rec : T → H → Option R) (z67 : (List (List Int))) (z68 : Int) (z69 : Int) (z70 : (List Int)) (z71 : Int) (z72 : Int) (z73 : (List Move)) (z74 : Int) (z75 : Int) (z76 : (List (List Move))) (z77 : (List Move)) (z78 : (List (List Move))) (z79 : (List (List Move))) :
    (contAt (E88 L N) (evCallI (E88 L N) 1 2000) 1000 88 79 6 f88.c2 (stepK (outK (keepT 79 ((E88 L N).liveX 88 4).1) (keepH 1000 ((E88 L N).liveX 88 4).2) κ) fun t h => rec (backK 1000 79 ((E88 L N).live 88 4).1 ((E88 L N).live 88 4).2 ((E88 L N).heal 88 4) ((E88 L N).ren 88 4) t h).1 (backK 1000 79 ((E88 L N).live 88 4).1 ((E88 L N).live 88 4).2 ((E88 L N).heal 88 4) ((E88 L N).ren 88 4) t h).2)) (.exit 6) (f88.T3_e6 z67 z68 z69 z70 z71 z72 z73 z74 z75 z76 z77 z78 z79) (f88.H3_e6 z67 z68 z69 z70 z71 z72 z73 z74 z75 z76 z77 z78 z79)
    = f88.p3_e6 L N (fun z39 z40 z41 z42 z43 z44 z45 z46 z47 z48 => κ (.exit 4) (f88.T2_e4 z39 z40 z41 z42 z43 z44 z45 z46 z47 z48) (f88.H2_e4 z39 z40 z41 z42 z43 z44 z45 z46 z47 z48)) (fun s26 s27 s28 s29 s30 s31 s32 s33 s34 s35 s36 s37 s38 => rec (f88.T2 s26 s27 s28 s29 s30 s31 s32 s33 s34 s35 s36 s37 s38) (f88.H2 s26 s27 s28 s29 s30 s31 s32 s33 s34 s35 s36 s37 s38)) z67 z68 z69 z70 z71 z72 z73 z74 z75 z76 z77 z78 z79 := by
  rw [f88.p3_e6_pre]
  unfold f88.p3_e6
  rfl
theorem f88.s2_pre {R : Type} (L N : Nat) (κ : Ex → T → H → Option R) (rec : T → H → Option R) (s26 : (List (List Int))) (s27 : Int) (s28 : Int) (s29 : (List Int)) (s30 : Int) (s31 : Int) (s32 : (List Move)) (s33 : Int) (s34 : Int) (s35 : (List (List Move))) (s36 : (List Move)) (s37 : (List (List Move))) (s38 : (List (List Move))) :
    evRd (E88 L N) (evCallI (E88 L N) 1 2000) 1000 88 79 4 f88.c2 κ rec (f88.T2 s26 s27 s28 s29 s30 s31 s32 s33 s34 s35 s36 s37 s38) (f88.H2 s26 s27 s28 s29 s30 s31 s32 s33 s34 s35 s36 s37 s38)
    = f88.s2' L N (fun z39 z40 z41 z42 z43 z44 z45 z46 z47 z48 => κ (.exit 4) (f88.T2_e4 z39 z40 z41 z42 z43 z44 z45 z46 z47 z48) (f88.H2_e4 z39 z40 z41 z42 z43 z44 z45 z46 z47 z48)) (fun s26 s27 s28 s29 s30 s31 s32 s33 s34 s35 s36 s37 s38 => rec (f88.T2 s26 s27 s28 s29 s30 s31 s32 s33 s34 s35 s36 s37 s38) (f88.H2 s26 s27 s28 s29 s30 s31 s32 s33 s34 s35 s36 s37 s38)) (fun s49 s50 s51 s52 s53 s54 s55 s56 s57 s58 s59 s60 s61 s62 s63 s64 s65 s66 => evLp (E88 L N) (evCallI (E88 L N) 1 2000) 1000 88 79 6 f88.c3 (contAt (E88 L N) (evCallI (E88 L N) 1 2000) 1000 88 79 6 f88.c2 (stepK (outK (keepT 79 ((E88 L N).liveX 88 4).1) (keepH 1000 ((E88 L N).liveX 88 4).2) κ) fun t h => rec (backK 1000 79 ((E88 L N).live 88 4).1 ((E88 L N).live 88 4).2 ((E88 L N).heal 88 4) ((E88 L N).ren 88 4) t h).1 (backK 1000 79 ((E88 L N).live 88 4).1 ((E88 L N).live 88 4).2 ((E88 L N).heal 88 4) ((E88 L N).ren 88 4) t h).2)) L (f88.T3 s49 s50 s51 s52 s53 s54 s55 s56 s57 s58 s59 s60 s61 s62 s63 s64 s65 s66) (f88.H3 s49 s50 s51 s52 s53 s54 s55 s56 s57 s58 s59 s60 s61 s62 s63 s64 s65 s66)) s26 s27 s28 s29 s30 s31 s32 s33 s34 s35 s36 s37 s38 := by kernel_rfl
theorem f88.s2_eq {R : Type} (L N : Nat) (κ : Ex → T → H → Option R) (rec : T → H → Option R) (s26 : (List (List Int))) (s27 : Int) (s28 : Int) (s29 : (List Int)) (s30 : Int) (s31 : Int) (s32 : (List Move)) (s33 : Int) (s34 : Int) (s35 : (List (List Move))) (s36 : (List Move)) (s37 : (List (List Move))) (s38 : (List (List Move))) :
    evRd (E88 L N) (evCallI (E88 L N) 1 2000) 1000 88 79 4 f88.c2 κ rec (f88.T2 s26 s27 s28 s29 s30 s31 s32 s33 s34 s35 s36 s37 s38) (f88.H2 s26 s27 s28 s29 s30 s31 s32 s33 s34 s35 s36 s37 s38)
    = f88.s2 L N (fun z39 z40 z41 z42 z43 z44 z45 z46 z47 z48 => κ (.exit 4) (f88.T2_e4 z39 z40 z41 z42 z43 z44 z45 z46 z47 z48) (f88.H2_e4 z39 z40 z41 z42 z43 z44 z45 z46 z47 z48)) (fun s26 s27 s28 s29 s30 s31 s32 s33 s34 s35 s36 s37 s38 => rec (f88.T2 s26 s27 s28 s29 s30 s31 s32 s33 s34 s35 s36 s37 s38) (f88.H2 s26 s27 s28 s29 s30 s31 s32 s33 s34 s35 s36 s37 s38)) s26 s27 s28 s29 s30 s31 s32 s33 s34 s35 s36 s37 s38 := by
  rw [f88.s2_pre]
  unfold f88.s2
  simp only [f88.l3_eq, f88.p3_e6_eq]
theorem f88.l2_eq {R : Type} (L N : Nat) (κ : Ex → T → H → Option R) : ∀ (n : Nat) (s26 : (List (List Int))) (s27 : Int) (s28 : Int) (s29 : (List Int)) (s30 : Int) (s31 : Int) (s32 : (List Move)) (s33 : Int) (s34 : Int) (s35 : (List (List Move))) (s36 : (List Move)) (s37 : (List (List Move))) (s38 : (List (List Move))),
    evLp (E88 L N) (evCallI (E88 L N) 1 2000) 1000 88 79 4 f88.c2 κ n (f88.T2 s26 s27 s28 s29 s30 s31 s32 s33 s34 s35 s36 s37 s38) (f88.H2 s26 s27 s28 s29 s30 s31 s32 s33 s34 s35 s36 s37 s38)
    = f88.l2 L N (fun z39 z40 z41 z42 z43 z44 z45 z46 z47 z48 => κ (.exit 4) (f88.T2_e4 z39 z40 z41 z42 z43 z44 z45 z46 z47 z48) (f88.H2_e4 z39 z40 z41 z42 z43 z44 z45 z46 z47 z48)) n s26 s27 s28 s29 s30 s31 s32 s33 s34 s35 s36 s37 s38 := by
  intro n
  induction n with
  | zero => intros; rfl
  | succ n ih =>
    intro s26 s27 s28 s29 s30 s31 s32 s33 s34 s35 s36 s37 s38
    rw [evLp_succ, f88.s2_eq]
    simp only [ih]
    rfl
theorem f88.p2_e4_pre {R : Type} (L N : Nat) (κ : Ex → T → H → Option R) (rec : T → H → Option R) (z39 : (List (List Int))) (z40 : Int) (z41 : Int) (z42 : (List Int)) (z43 : Int) (z44 : Int) (z45 : (List (List Move))) (z46 : (List Move)) (z47 : (List (List Move))) (z48 : (List (List Move))) :
    (contAt (E88 L N) (evCallI (E88 L N) 1 2000) 1000 88 79 4 f88.c1 (stepK (outK (keepT 79 ((E88 L N).liveX 88 2).1) (keepH 1000 ((E88 L N).liveX 88 2).2) κ) fun t h => rec (backK 1000 79 ((E88 L N).live 88 2).1 ((E88 L N).live 88 2).2 ((E88 L N).heal 88 2) ((E88 L N).ren 88 2) t h).1 (backK 1000 79 ((E88 L N).live 88 2).1 ((E88 L N).live 88 2).2 ((E88 L N).heal 88 2) ((E88 L N).ren 88 2) t h).2)) (.exit 4) (f88.T2_e4 z39 z40 z41 z42 z43 z44 z45 z46 z47 z48) (f88.H2_e4 z39 z40 z41 z42 z43 z44 z45 z46 z47 z48)
    = f88.p2_e4' L N (fun z19 z20 z21 z22 z23 z24 z25 => κ (.exit 2) (f88.T1_e2 z19 z20 z21 z22 z23 z24 z25) (f88.H1_e2 z19 z20 z21 z22 z23 z24 z25)) (fun s9 s10 s11 s12 s13 s14 s15 s16 s17 s18 => rec (f88.T1 s9 s10 s11 s12 s13 s14 s15 s16 s17 s18) (f88.H1 s9 s10 s11 s12 s13 s14 s15 s16 s17 s18)) z39 z40 z41 z42 z43 z44 z45 z46 z47 z48 := by kernel_rfl
theorem f88.p2_e4_eq {R : Type} (L N : Nat) (κ : Ex → T → H → Option R) (rec : T → H → Option R) (z39 : (List (List Int))) (z40 : Int) (z41 : Int) (z42 : (List Int)) (z43 : Int) (z44 : Int) (z45 : (List (List Move))) (z46 : (List Move)) (z47 : (List (List Move))) (z48 : (List (List Move))) :
    (contAt (E88 L N) (evCallI (E88 L N) 1 2000) 1000 88 79 4 f88.c1 (stepK (outK (keepT 79 ((E88 L N).liveX 88 2).1) (keepH 1000 ((E88 L N).liveX 88 2).2) κ) fun t h => rec (backK 1000 79 ((E88 L N).live 88 2).1 ((E88 L N).live 88 2).2 ((E88 L N).heal 88 2) ((E88 L N).ren 88 2) t h).1 (backK 1000 79 ((E88 L N).live 88 2).1 ((E88 L N).live 88 2).2 ((E88 L N).heal 88 2) ((E88 L N).ren 88 2) t h).2)) (.exit 4) (f88.T2_e4 z39 z40 z41 z42 z43 z44 z45 z46 z47 z48) (f88.H2_e4 z39 z40 z41 z42 z43 z44 z45 z46 z47 z48)
    = f88.p2_e4 L N (fun z19 z20 z21 z22 z23 z24 z25 => κ (.exit 2) (f88.T1_e2 z19 z20 z21 z22 z23 z24 z25) (f88.H1_e2 z19 z20 z21 z22 z23 z24 z25)) (fun s9 s10 s11 s12 s13 s14 s15 s16 s17 s18 => rec (f88.T1 s9 s10 s11 s12 s13 s14 s15 s16 s17 s18) (f88.H1 s9 s10 s11 s12 s13 s14 s15 s16 s17 s18)) z39 z40 z41 z42 z43 z44 z45 z46 z47 z48 := by
  rw [f88.p2_e4_pre]
  unfold f88.p2_e4
  rfl
theorem f88.s1_pre {R : Type} (L N : Nat) (κ : Ex → T → H → Option R) (rec : T → H → Option R) (s9 : (List (List Int))) (s10 : Int) (s11 : Int) (s12 : (List Int)) (s13 : Int) (s14 : Int) (s15 : (List (List Move))) (s16 : (List Move)) (s17 : (List (List Move))) (s18 : (List (List Move))) :
    evRd (E88 L N) (evCallI (E88 L N) 1 2000) 1000 88 79 2 f88.c1 κ rec (f88.T1 s9 s10 s11 s12 s13 s14 s15 s16 s17 s18) (f88.H1 s9 s10 s11 s12 s13 s14 s15 s16 s17 s18)
    = f88.s1' L N (fun z19 z20 z21 z22 z23 z24 z25 => κ (.exit 2) (f88.T1_e2 z19 z20 z21 z22 z23 z24 z25) (f88.H1_e2 z19 z20 z21 z22 z23 z24 z25)) (fun s9 s10 s11 s12 s13 s14 s15 s16 s17 s18 => rec (f88.T1 s9 s10 s11 s12 s13 s14 s15 s16 s17 s18) (f88.H1 s9 s10 s11 s12 s13 s14 s15 s16 s17 s18)) (fun s26 s27 s28 s29 s30 s31 s32 s33 s34 s35 s36 s37 s38 => evLp (E88 L N) (evCallI (E88 L N) 1 2000) 1000 88 79 4 f88.c2 (contAt (E88 L N) (evCallI (E88 L N) 1 2000) 1000 88 79 4 f88.c1 (stepK (outK (keepT 79 ((E88 L N).liveX 88 2).1) (keepH 1000 ((E88 L N).liveX 88 2).2) κ) fun t h => rec (backK 1000 79 ((E88 L N).live 88 2).1 ((E88 L N).live 88 2).2 ((E88 L N).heal 88 2) ((E88 L N).ren 88 2) t h).1 (backK 1000 79 ((E88 L N).live 88 2).1 ((E88 L N).live 88 2).2 ((E88 L N).heal 88 2) ((E88 L N).ren 88 2) t h).2)) L (f88.T2 s26 s27 s28 s29 s30 s31 s32 s33 s34 s35 s36 s37 s38) (f88.H2 s26 s27 s28 s29 s30 s31 s32 s33 s34 s35 s36 s37 s38)) s9 s10 s11 s12 s13 s14 s15 s16 s17 s18 := by kernel_rfl
theorem f88.s1_eq {R : Type} (L N : Nat) (κ : Ex → T → H → Option R) (rec : T → H → Option R) (s9 : (List (List Int))) (s10 : Int) (s11 : Int) (s12 : (List Int)) (s13 : Int) (s14 : Int) (s15 : (List (List Move))) (s16 : (List Move)) (s17 : (List (List Move))) (s18 : (List (List Move))) :
    evRd (E88 L N) (evCallI (E88 L N) 1 2000) 1000 88 79 2 f88.c1 κ rec (f88.T1 s9 s10 s11 s12 s13 s14 s15 s16 s17 s18) (f88.H1 s9 s10 s11 s12 s13 s14 s15 s16 s17 s18)
    = f88.s1 L N (fun z19 z20 z21 z22 z23 z24 z25 => κ (.exit 2) (f88.T1_e2 z19 z20 z21 z22 z23 z24 z25) (f88.H1_e2 z19 z20 z21 z22 z23 z24 z25)) (fun s9 s10 s11 s12 s13 s14 s15 s16 s17 s18 => rec (f88.T1 s9 s10 s11 s12 s13 s14 s15 s16 s17 s18) (f88.H1 s9 s10 s11 s12 s13 s14 s15 s16 s17 s18)) s9 s10 s11 s12 s13 s14 s15 s16 s17 s18 := by
  rw [f88.s1_pre]
  unfold f88.s1
  simp only [f88.l2_eq, f88.p2_e4_eq]
theorem f88.l1_eq {R : Type} (L N : Nat) (κ : Ex → T → H → Option R) : ∀ (n : Nat) (s9 : (List (List Int))) (s10 : Int) (s11 : Int) (s12 : (List Int)) (s13 : Int) (s14 : Int) (s15 : (List (List Move))) (s16 : (List Move)) (s17 : (List (List Move))) (s18 : (List (List Move))),
    evLp (E88 L N) (evCallI (E88 L N) 1 2000) 1000 88 79 2 f88.c1 κ n (f88.T1 s9 s10 s11 s12 s13 s14 s15 s16 s17 s18) (f88.H1 s9 s10 s11 s12 s13 s14 s15 s16 s17 s18)
    = f88.l1 L N (fun z19 z20 z21 z22 z23 z24 z25 => κ (.exit 2) (f88.T1_e2 z19 z20 z21 z22 z23 z24 z25) (f88.H1_e2 z19 z20 z21 z22 z23 z24 z25)) n s9 s10 s11 s12 s13 s14 s15 s16 s17 s18 := by
  intro n
  induction n with
  | zero => intros; rfl
  | succ n ih =>
    intro s9 s10 s11 s12 s13 s14 s15 s16 s17 s18
    rw [evLp_succ, f88.s1_eq]
    simp only [ih]
    rfl
theorem f88.p1_e2_pre {R : Type} (L N : Nat) (κ : Ex → T → H → Option R) (rec : T → H → Option R) (z19 : (List (List Int))) (z20 : Int) (z21 : Int) (z22 : (List (List Move))) (z23 : (List Move)) (z24 : (List (List Move))) (z25 : (List (List Move))) :
    (contAt (E88 L N) (evCallI (E88 L N) 1 2000) 1000 88 79 2 f88.c0 (stepK (outK (keepT 79 ((E88 L N).liveX 88 0).1) (keepH 1000 ((E88 L N).liveX 88 0).2) κ) fun t h => rec (backK 1000 79 ((E88 L N).live 88 0).1 ((E88 L N).live 88 0).2 ((E88 L N).heal 88 0) ((E88 L N).ren 88 0) t h).1 (backK 1000 79 ((E88 L N).live 88 0).1 ((E88 L N).live 88 0).2 ((E88 L N).heal 88 0) ((E88 L N).ren 88 0) t h).2)) (.exit 2) (f88.T1_e2 z19 z20 z21 z22 z23 z24 z25) (f88.H1_e2 z19 z20 z21 z22 z23 z24 z25)
    = f88.p1_e2' L N (fun z7 z8 => κ (.exit 0) (f88.T0_e0 z7 z8) (f88.H0_e0 z7 z8)) (fun s1 s2 s3 s4 s5 s6 => rec (f88.T0 s1 s2 s3 s4 s5 s6) (f88.H0 s1 s2 s3 s4 s5 s6)) z19 z20 z21 z22 z23 z24 z25 := by kernel_rfl
theorem f88.p1_e2_eq {R : Type} (L N : Nat) (κ : Ex → T → H → Option R) (rec : T → H → Option R) (z19 : (List (List Int))) (z20 : Int) (z21 : Int) (z22 : (List (List Move))) (z23 : (List Move)) (z24 : (List (List Move))) (z25 : (List (List Move))) :
    (contAt (E88 L N) (evCallI (E88 L N) 1 2000) 1000 88 79 2 f88.c0 (stepK (outK (keepT 79 ((E88 L N).liveX 88 0).1) (keepH 1000 ((E88 L N).liveX 88 0).2) κ) fun t h => rec (backK 1000 79 ((E88 L N).live 88 0).1 ((E88 L N).live 88 0).2 ((E88 L N).heal 88 0) ((E88 L N).ren 88 0) t h).1 (backK 1000 79 ((E88 L N).live 88 0).1 ((E88 L N).live 88 0).2 ((E88 L N).heal 88 0) ((E88 L N).ren 88 0) t h).2)) (.exit 2) (f88.T1_e2 z19 z20 z21 z22 z23 z24 z25) (f88.H1_e2 z19 z20 z21 z22 z23 z24 z25)
    = f88.p1_e2 L N (fun z7 z8 => κ (.exit 0) (f88.T0_e0 z7 z8) (f88.H0_e0 z7 z8)) (fun s1 s2 s3 s4 s5 s6 => rec (f88.T0 s1 s2 s3 s4 s5 s6) (f88.H0 s1 s2 s3 s4 s5 s6)) z19 z20 z21 z22 z23 z24 z25 := by
  rw [f88.p1_e2_pre]
  unfold f88.p1_e2
  rfl
theorem f88.s0_pre {R : Type} (L N : Nat) (κ : Ex → T → H → Option R) (rec : T → H → Option R) (s1 : (List (List Int))) (s2 : Int) (s3 : Int) (s4 : (List (List Move))) (s5 : (List (List Move))) (s6 : (List (List Move))) :
    evRd (E88 L N) (evCallI (E88 L N) 1 2000) 1000 88 79 0 f88.c0 κ rec (f88.T0 s1 s2 s3 s4 s5 s6) (f88.H0 s1 s2 s3 s4 s5 s6)
    = f88.s0' L N (fun z7 z8 => κ (.exit 0) (f88.T0_e0 z7 z8) (f88.H0_e0 z7 z8)) (fun s1 s2 s3 s4 s5 s6 => rec (f88.T0 s1 s2 s3 s4 s5 s6) (f88.H0 s1 s2 s3 s4 s5 s6)) (fun s9 s10 s11 s12 s13 s14 s15 s16 s17 s18 => evLp (E88 L N) (evCallI (E88 L N) 1 2000) 1000 88 79 2 f88.c1 (contAt (E88 L N) (evCallI (E88 L N) 1 2000) 1000 88 79 2 f88.c0 (stepK (outK (keepT 79 ((E88 L N).liveX 88 0).1) (keepH 1000 ((E88 L N).liveX 88 0).2) κ) fun t h => rec (backK 1000 79 ((E88 L N).live 88 0).1 ((E88 L N).live 88 0).2 ((E88 L N).heal 88 0) ((E88 L N).ren 88 0) t h).1 (backK 1000 79 ((E88 L N).live 88 0).1 ((E88 L N).live 88 0).2 ((E88 L N).heal 88 0) ((E88 L N).ren 88 0) t h).2)) L (f88.T1 s9 s10 s11 s12 s13 s14 s15 s16 s17 s18) (f88.H1 s9 s10 s11 s12 s13 s14 s15 s16 s17 s18)) s1 s2 s3 s4 s5 s6 := by kernel_rfl
theorem f88.s0_eq {R : Type} (L N : Nat) (κ : Ex → T → H → Option R) (rec : T → H → Option R) (s1 : (List (List Int))) (s2 : Int) (s3 : Int) (s4 : (List (List Move))) (s5 : (List (List Move))) (s6 : (List (List Move))) :
    evRd (E88 L N) (evCallI (E88 L N) 1 2000) 1000 88 79 0 f88.c0 κ rec (f88.T0 s1 s2 s3 s4 s5 s6) (f88.H0 s1 s2 s3 s4 s5 s6)
    = f88.s0 L N (fun z7 z8 => κ (.exit 0) (f88.T0_e0 z7 z8) (f88.H0_e0 z7 z8)) (fun s1 s2 s3 s4 s5 s6 => rec (f88.T0 s1 s2 s3 s4 s5 s6) (f88.H0 s1 s2 s3 s4 s5 s6)) s1 s2 s3 s4 s5 s6 := by
  rw [f88.s0_pre]
  unfold f88.s0
  simp only [f88.l1_eq, f88.p1_e2_eq]
theorem f88.l0_eq {R : Type} (L N : Nat) (κ : Ex → T → H → Option R) : ∀ (n : Nat) (s1 : (List (List Int))) (s2 : Int) (s3 : Int) (s4 : (List (List Move))) (s5 : (List (List Move))) (s6 : (List (List Move))),
    evLp (E88 L N) (evCallI (E88 L N) 1 2000) 1000 88 79 0 f88.c0 κ n (f88.T0 s1 s2 s3 s4 s5 s6) (f88.H0 s1 s2 s3 s4 s5 s6)
    = f88.l0 L N (fun z7 z8 => κ (.exit 0) (f88.T0_e0 z7 z8) (f88.H0_e0 z7 z8)) n s1 s2 s3 s4 s5 s6 := by
  intro n
  induction n with
  | zero => intros; rfl
  | succ n ih =>
    intro s1 s2 s3 s4 s5 s6
    rw [evLp_succ, f88.s0_eq]
    simp only [ih]
    rfl
theorem f88.p0_e0_pre {R : Type} (L N : Nat) (κ : RN.Den (.agg []) → List (List Move) → Option R) (z7 : (List (List Move))) (z8 : (List (List Move))) :
    (contAt (E88 L N) (evCallI (E88 L N) 1 2000) 1000 88 79 0 (codeOf Try.f88) (finK (E88 L N) 1000 Try.f88 (finN (.agg []) (some 0) 51 (.sl (.st 0)) κ))) (.exit 0) (f88.T0_e0 z7 z8) (f88.H0_e0 z7 z8)
    = f88.p0_e0' L N (fun a0 => κ (()) a0) z7 z8 := by kernel_rfl
theorem f88.p0_e0_eq {R : Type} (L N : Nat) (κ : RN.Den (.agg []) → List (List Move) → Option R) (z7 : (List (List Move))) (z8 : (List (List Move))) :
    (contAt (E88 L N) (evCallI (E88 L N) 1 2000) 1000 88 79 0 (codeOf Try.f88) (finK (E88 L N) 1000 Try.f88 (finN (.agg []) (some 0) 51 (.sl (.st 0)) κ))) (.exit 0) (f88.T0_e0 z7 z8) (f88.H0_e0 z7 z8)
    = f88.p0_e0 L N (fun a0 => κ (()) a0) z7 z8 := by
  rw [f88.p0_e0_pre]
  unfold f88.p0_e0
  rfl
theorem f88.b_pre {R : Type} (L N : Nat) (κ : RN.Den (.agg []) → List (List Move) → Option R) (x0 : Graph) :
    evBody (E88 L N) (evCallI (E88 L N) 1 2000) 1000 88 Try.f88 [(.tv (.st 2) x0)] [] [] (finN (.agg []) (some 0) 51 (.sl (.st 0)) κ)
    = f88.b' L N (fun a0 => κ (()) a0) (fun s1 s2 s3 s4 s5 s6 => evLp (E88 L N) (evCallI (E88 L N) 1 2000) 1000 88 79 0 f88.c0 (contAt (E88 L N) (evCallI (E88 L N) 1 2000) 1000 88 79 0 (codeOf Try.f88) (finK (E88 L N) 1000 Try.f88 (finN (.agg []) (some 0) 51 (.sl (.st 0)) κ))) L (f88.T0 s1 s2 s3 s4 s5 s6) (f88.H0 s1 s2 s3 s4 s5 s6)) x0 := by kernel_rfl
theorem f88.b_eq {R : Type} (L N : Nat) (κ : RN.Den (.agg []) → List (List Move) → Option R) (x0 : Graph) :
    evBody (E88 L N) (evCallI (E88 L N) 1 2000) 1000 88 Try.f88 [(.tv (.st 2) x0)] [] [] (finN (.agg []) (some 0) 51 (.sl (.st 0)) κ)
    = f88.b L N (fun a0 => κ (()) a0) x0 := by
  rw [f88.b_pre]
  unfold f88.b
  simp only [f88.l0_eq, f88.p0_e0_eq]
theorem f88.s3'_nat {R R' : Type} (j : R → Option R') (L N : Nat) (k3_e6 : (List (List Int)) → Int → Int → (List Int) → Int → Int → (List Move) → Int → Int → (List (List Move)) → (List Move) → (List (List Move)) → (List (List Move)) → Option R) (rec3 : (List (List Int)) → Int → Int → (List Int) → Int → Int → (List Move) → Int → Int → (List Int) → Int → Int → (List (List Move)) → Int → Int → (List Move) → (List (List Move)) → (List (List Move)) → Option R) (s49 : (List (List Int))) (s50 : Int) (s51 : Int) (s52 : (List Int)) (s53 : Int) (s54 : Int) (s55 : (List Move)) (s56 : Int) (s57 : Int) (s58 : (List Int)) (s59 : Int) (s60 : Int) (s61 : (List (List Move))) (s62 : Int) (s63 : Int) (s64 : (List Move)) (s65 : (List (List Move))) (s66 : (List (List Move))) :
    f88.s3' L N (fun a0 a1 a2 a3 a4 a5 a6 a7 a8 a9 a10 a11 a12 => (k3_e6 a0 a1 a2 a3 a4 a5 a6 a7 a8 a9 a10 a11 a12).bind j) (fun a0 a1 a2 a3 a4 a5 a6 a7 a8 a9 a10 a11 a12 a13 a14 a15 a16 a17 => (rec3 a0 a1 a2 a3 a4 a5 a6 a7 a8 a9 a10 a11 a12 a13 a14 a15 a16 a17).bind j) s49 s50 s51 s52 s53 s54 s55 s56 s57 s58 s59 s60 s61 s62 s63 s64 s65 s66 = (f88.s3' L N k3_e6 rec3 s49 s50 s51 s52 s53 s54 s55 s56 s57 s58 s59 s60 s61 s62 s63 s64 s65 s66).bind j := by
  unfold f88.s3'
  repeat' (first | (with_reducible refine cond_nat ?_ ?_) | (with_reducible refine bind_nat fun _ => ?_) | rfl)
theorem f88.s3_nat {R R' : Type} (j : R → Option R') (L N : Nat) (k3_e6 : (List (List Int)) → Int → Int → (List Int) → Int → Int → (List Move) → Int → Int → (List (List Move)) → (List Move) → (List (List Move)) → (List (List Move)) → Option R) (rec3 : (List (List Int)) → Int → Int → (List Int) → Int → Int → (List Move) → Int → Int → (List Int) → Int → Int → (List (List Move)) → Int → Int → (List Move) → (List (List Move)) → (List (List Move)) → Option R) (s49 : (List (List Int))) (s50 : Int) (s51 : Int) (s52 : (List Int)) (s53 : Int) (s54 : Int) (s55 : (List Move)) (s56 : Int) (s57 : Int) (s58 : (List Int)) (s59 : Int) (s60 : Int) (s61 : (List (List Move))) (s62 : Int) (s63 : Int) (s64 : (List Move)) (s65 : (List (List Move))) (s66 : (List (List Move))) :
    f88.s3 L N (fun a0 a1 a2 a3 a4 a5 a6 a7 a8 a9 a10 a11 a12 => (k3_e6 a0 a1 a2 a3 a4 a5 a6 a7 a8 a9 a10 a11 a12).bind j) (fun a0 a1 a2 a3 a4 a5 a6 a7 a8 a9 a10 a11 a12 a13 a14 a15 a16 a17 => (rec3 a0 a1 a2 a3 a4 a5 a6 a7 a8 a9 a10 a11 a12 a13 a14 a15 a16 a17).bind j) s49 s50 s51 s52 s53 s54 s55 s56 s57 s58 s59 s60 s61 s62 s63 s64 s65 s66 = (f88.s3 L N k3_e6 rec3 s49 s50 s51 s52 s53 s54 s55 s56 s57 s58 s59 s60 s61 s62 s63 s64 s65 s66).bind j := by
  unfold f88.s3
  exact f88.s3'_nat ..
theorem f88.l3_nat {R R' : Type} (j : R → Option R') (L N : Nat) (k3_e6 : (List (List Int)) → Int → Int → (List Int) → Int → Int → (List Move) → Int → Int → (List (List Move)) → (List Move) → (List (List Move)) → (List (List Move)) → Option R) : ∀ (n : Nat) (s49 : (List (List Int))) (s50 : Int) (s51 : Int) (s52 : (List Int)) (s53 : Int) (s54 : Int) (s55 : (List Move)) (s56 : Int) (s57 : Int) (s58 : (List Int)) (s59 : Int) (s60 : Int) (s61 : (List (List Move))) (s62 : Int) (s63 : Int) (s64 : (List Move)) (s65 : (List (List Move))) (s66 : (List (List Move))),
    f88.l3 L N (fun a0 a1 a2 a3 a4 a5 a6 a7 a8 a9 a10 a11 a12 => (k3_e6 a0 a1 a2 a3 a4 a5 a6 a7 a8 a9 a10 a11 a12).bind j) n s49 s50 s51 s52 s53 s54 s55 s56 s57 s58 s59 s60 s61 s62 s63 s64 s65 s66 = (f88.l3 L N k3_e6 n s49 s50 s51 s52 s53 s54 s55 s56 s57 s58 s59 s60 s61 s62 s63 s64 s65 s66).bind j := by
  intro n
  induction n with
  | zero => intros; rfl
  | succ n ih =>
    intro s49 s50 s51 s52 s53 s54 s55 s56 s57 s58 s59 s60 s61 s62 s63 s64 s65 s66
    show f88.s3 L N (fun a0 a1 a2 a3 a4 a5 a6 a7 a8 a9 a10 a11 a12 => (k3_e6 a0 a1 a2 a3 a4 a5 a6 a7 a8 a9 a10 a11 a12).bind j) (f88.l3 L N (fun a0 a1 a2 a3 a4 a5 a6 a7 a8 a9 a10 a11 a12 => (k3_e6 a0 a1 a2 a3 a4 a5 a6 a7 a8 a9 a10 a11 a12).bind j) n) s49 s50 s51 s52 s53 s54 s55 s56 s57 s58 s59 s60 s61 s62 s63 s64 s65 s66 = _
    rw [show f88.l3 L N (fun a0 a1 a2 a3 a4 a5 a6 a7 a8 a9 a10 a11 a12 => (k3_e6 a0 a1 a2 a3 a4 a5 a6 a7 a8 a9 a10 a11 a12).bind j) n = (fun s49 s50 s51 s52 s53 s54 s55 s56 s57 s58 s59 s60 s61 s62 s63 s64 s65 s66 => (f88.l3 L N k3_e6 n s49 s50 s51 s52 s53 s54 s55 s56 s57 s58 s59 s60 s61 s62 s63 s64 s65 s66).bind j) from funext fun s49 => funext fun s50 => funext fun s51 => funext fun s52 => funext fun s53 => funext fun s54 => funext fun s55 => funext fun s56 => funext fun s57 => funext fun s58 => funext fun s59 => funext fun s60 => funext fun s61 => funext fun s62 => funext fun s63 => funext fun s64 => funext fun s65 => funext fun s66 => ih s49 s50 s51 s52 s53 s54 s55 s56 s57 s58 s59 s60 s61 s62 s63 s64 s65 s66]
    exact f88.s3_nat ..
theorem f88.p3_e6'_nat {R R' : Type} (j : R → Option R') (L N : Nat) (k2_e4 : (List (List Int)) → Int → Int → (List Int) → Int → Int → (List (List Move)) → (List Move) → (List (List Move)) → (List (List Move)) → Option R) (rec2 : (List (List Int)) → Int → Int → (List Int) → Int → Int → (List Move) → Int → Int → (List (List Move)) → (List Move) → (List (List Move)) → (List (List Move)) → Option R) (z67 : (List (List Int))) (z68 : Int) (z69 : Int) (z70 : (List Int)) (z71 : Int) (z72 : Int) (z73 : (List Move)) (z74 : Int) (z75 : Int) (z76 : (List (List Move))) (z77 : (List Move)) (z78 : (List (List Move))) (z79 : (List (List Move))) :
    f88.p3_e6' L N (fun a0 a1 a2 a3 a4 a5 a6 a7 a8 a9 => (k2_e4 a0 a1 a2 a3 a4 a5 a6 a7 a8 a9).bind j) (fun a0 a1 a2 a3 a4 a5 a6 a7 a8 a9 a10 a11 a12 => (rec2 a0 a1 a2 a3 a4 a5 a6 a7 a8 a9 a10 a11 a12).bind j) z67 z68 z69 z70 z71 z72 z73 z74 z75 z76 z77 z78 z79 = (f88.p3_e6' L N k2_e4 rec2 z67 z68 z69 z70 z71 z72 z73 z74 z75 z76 z77 z78 z79).bind j := by
  unfold f88.p3_e6'
  repeat' (first | (with_reducible refine cond_nat ?_ ?_) | (with_reducible refine bind_nat fun _ => ?_) | rfl)
theorem f88.p3_e6_nat {R R' : Type} (j : R → Option R') (L N : Nat) (k2_e4 : (List (List Int)) → Int → Int → (List Int) → Int → Int → (List (List Move)) → (List Move) → (List (List Move)) → (List (List Move)) → Option R) (rec2 : (List (List Int)) → Int → Int → (List Int) → Int → Int → (List Move) → Int → Int → (List (List Move)) → (List Move) → (List (List Move)) → (List (List Move)) → Option R) (z67 : (List (List Int))) (z68 : Int) (z69 : Int) (z70 : (List Int)) (z71 : Int) (z72 : Int) (z73 : (List Move)) (z74 : Int) (z75 : Int) (z76 : (List (List Move))) (z77 : (List Move)) (z78 : (List (List Move))) (z79 : (List (List Move))) :
    f88.p3_e6 L N (fun a0 a1 a2 a3 a4 a5 a6 a7 a8 a9 => (k2_e4 a0 a1 a2 a3 a4 a5 a6 a7 a8 a9).bind j) (fun a0 a1 a2 a3 a4 a5 a6 a7 a8 a9 a10 a11 a12 => (rec2 a0 a1 a2 a3 a4 a5 a6 a7 a8 a9 a10 a11 a12).bind j) z67 z68 z69 z70 z71 z72 z73 z74 z75 z76 z77 z78 z79 = (f88.p3_e6 L N k2_e4 rec2 z67 z68 z69 z70 z71 z72 z73 z74 z75 z76 z77 z78 z79).bind j := by
  unfold f88.p3_e6
  exact f88.p3_e6'_nat ..
theorem f88.s2'_nat {R R' : Type} (j : R → Option R') (L N : Nat) (k2_e4 : (List (List Int)) → Int → Int → (List Int) → Int → Int → (List (List Move)) → (List Move) → (List (List Move)) → (List (List Move)) → Option R) (rec2 : (List (List Int)) → Int → Int → (List Int) → Int → Int → (List Move) → Int → Int → (List (List Move)) → (List Move) → (List (List Move)) → (List (List Move)) → Option R) (w3 : (List (List Int)) → Int → Int → (List Int) → Int → Int → (List Move) → Int → Int → (List Int) → Int → Int → (List (List Move)) → Int → Int → (List Move) → (List (List Move)) → (List (List Move)) → Option R) (s26 : (List (List Int))) (s27 : Int) (s28 : Int) (s29 : (List Int)) (s30 : Int) (s31 : Int) (s32 : (List Move)) (s33 : Int) (s34 : Int) (s35 : (List (List Move))) (s36 : (List Move)) (s37 : (List (List Move))) (s38 : (List (List Move))) :
    f88.s2' L N (fun a0 a1 a2 a3 a4 a5 a6 a7 a8 a9 => (k2_e4 a0 a1 a2 a3 a4 a5 a6 a7 a8 a9).bind j) (fun a0 a1 a2 a3 a4 a5 a6 a7 a8 a9 a10 a11 a12 => (rec2 a0 a1 a2 a3 a4 a5 a6 a7 a8 a9 a10 a11 a12).bind j) (fun a0 a1 a2 a3 a4 a5 a6 a7 a8 a9 a10 a11 a12 a13 a14 a15 a16 a17 => (w3 a0 a1 a2 a3 a4 a5 a6 a7 a8 a9 a10 a11 a12 a13 a14 a15 a16 a17).bind j) s26 s27 s28 s29 s30 s31 s32 s33 s34 s35 s36 s37 s38 = (f88.s2' L N k2_e4 rec2 w3 s26 s27 s28 s29 s30 s31 s32 s33 s34 s35 s36 s37 s38).bind j := by
  unfold f88.s2'
  repeat' (first | (with_reducible refine cond_nat ?_ ?_) | (with_reducible refine bind_nat fun _ => ?_) | rfl)
theorem f88.s2_nat {R R' : Type} (j : R → Option R') (L N : Nat) (k2_e4 : (List (List Int)) → Int → Int → (List Int) → Int → Int → (List (List Move)) → (List Move) → (List (List Move)) → (List (List Move)) → Option R) (rec2 : (List (List Int)) → Int → Int → (List Int) → Int → Int → (List Move) → Int → Int → (List (List Move)) → (List Move) → (List (List Move)) → (List (List Move)) → Option R) (s26 : (List (List Int))) (s27 : Int) (s28 : Int) (s29 : (List Int)) (s30 : Int) (s31 : Int) (s32 : (List Move)) (s33 : Int) (s34 : Int) (s35 : (List (List Move))) (s36 : (List Move)) (s37 : (List (List Move))) (s38 : (List (List Move))) :
    f88.s2 L N (fun a0 a1 a2 a3 a4 a5 a6 a7 a8 a9 => (k2_e4 a0 a1 a2 a3 a4 a5 a6 a7 a8 a9).bind j) (fun a0 a1 a2 a3 a4 a5 a6 a7 a8 a9 a10 a11 a12 => (rec2 a0 a1 a2 a3 a4 a5 a6 a7 a8 a9 a10 a11 a12).bind j) s26 s27 s28 s29 s30 s31 s32 s33 s34 s35 s36 s37 s38 = (f88.s2 L N k2_e4 rec2 s26 s27 s28 s29 s30 s31 s32 s33 s34 s35 s36 s37 s38).bind j := by
  unfold f88.s2
  simp only [f88.l3_nat, f88.p3_e6_nat]
  exact f88.s2'_nat ..
theorem f88.l2_nat {R R' : Type} (j : R → Option R') (L N : Nat) (k2_e4 : (List (List Int)) → Int → Int → (List Int) → Int → Int → (List (List Move)) → (List Move) → (List (List Move)) → (List (List Move)) → Option R) : ∀ (n : Nat) (s26 : (List (List Int))) (s27 : Int) (s28 : Int) (s29 : (List Int)) (s30 : Int) (s31 : Int) (s32 : (List Move)) (s33 : Int) (s34 : Int) (s35 : (List (List Move))) (s36 : (List Move)) (s37 : (List (List Move))) (s38 : (List (List Move))),
    f88.l2 L N (fun a0 a1 a2 a3 a4 a5 a6 a7 a8 a9 => (k2_e4 a0 a1 a2 a3 a4 a5 a6 a7 a8 a9).bind j) n s26 s27 s28 s29 s30 s31 s32 s33 s34 s35 s36 s37 s38 = (f88.l2 L N k2_e4 n s26 s27 s28 s29 s30 s31 s32 s33 s34 s35 s36 s37 s38).bind j := by
  intro n
  induction n with
  | zero => intros; rfl
  | succ n ih =>
    intro s26 s27 s28 s29 s30 s31 s32 s33 s34 s35 s36 s37 s38
    show f88.s2 L N (fun a0 a1 a2 a3 a4 a5 a6 a7 a8 a9 => (k2_e4 a0 a1 a2 a3 a4 a5 a6 a7 a8 a9).bind j) (f88.l2 L N (fun a0 a1 a2 a3 a4 a5 a6 a7 a8 a9 => (k2_e4 a0 a1 a2 a3 a4 a5 a6 a7 a8 a9).bind j) n) s26 s27 s28 s29 s30 s31 s32 s33 s34 s35 s36 s37 s38 = _
    rw [show f88.l2 L N (fun a0 a1 a2 a3 a4 a5 a6 a7 a8 a9 => (k2_e4 a0 a1 a2 a3 a4 a5 a6 a7 a8 a9).bind j) n = (fun s26 s27 s28 s29 s30 s31 s32 s33 s34 s35 s36 s37 s38 => (f88.l2 L N k2_e4 n s26 s27 s28 s29 s30 s31 s32 s33 s34 s35 s36 s37 s38).bind j) from funext fun s26 => funext fun s27 => funext fun s28 => funext fun s29 => funext fun s30 => funext fun s31 => funext fun s32 => funext fun s33 => funext fun s34 => funext fun s35 => funext fun s36 => funext fun s37 => funext fun s38 => ih s26 s27 s28 s29 s30 s31 s32 s33 s34 s35 s36 s37 s38]
    exact f88.s2_nat ..
theorem f88.p2_e4'_nat {R R' : Type} (j : R → Option R') (L N : Nat) (k1_e2 : (List (List Int)) → Int → Int → (List (List Move)) → (List Move) → (List (List Move)) → (List (List Move)) → Option R) (rec1 : (List (List Int)) → Int → Int → (List Int) → Int → Int → (List (List Move)) → (List Move) → (List (List Move)) → (List (List Move)) → Option R) (z39 : (List (List Int))) (z40 : Int) (z41 : Int) (z42 : (List Int)) (z43 : Int) (z44 : Int) (z45 : (List (List Move))) (z46 : (List Move)) (z47 : (List (List Move))) (z48 : (List (List Move))) :
    f88.p2_e4' L N (fun a0 a1 a2 a3 a4 a5 a6 => (k1_e2 a0 a1 a2 a3 a4 a5 a6).bind j) (fun a0 a1 a2 a3 a4 a5 a6 a7 a8 a9 => (rec1 a0 a1 a2 a3 a4 a5 a6 a7 a8 a9).bind j) z39 z40 z41 z42 z43 z44 z45 z46 z47 z48 = (f88.p2_e4' L N k1_e2 rec1 z39 z40 z41 z42 z43 z44 z45 z46 z47 z48).bind j := by
  unfold f88.p2_e4'
  repeat' (first | (with_reducible refine cond_nat ?_ ?_) | (with_reducible refine bind_nat fun _ => ?_) | rfl)
theorem f88.p2_e4_nat {R R' : Type} (j : R → Option R') (L N : Nat) (k1_e2 : (List (List Int)) → Int → Int → (List (List Move)) → (List Move) → (List (List Move)) → (List (List Move)) → Option R) (rec1 : (List (List Int)) → Int → Int → (List Int) → Int → Int → (List (List Move)) → (List Move) → (List (List Move)) → (List (List Move)) → Option R) (z39 : (List (List Int))) (z40 : Int) (z41 : Int) (z42 : (List Int)) (z43 : Int) (z44 : Int) (z45 : (List (List Move))) (z46 : (List Move)) (z47 : (List (List Move))) (z48 : (List (List Move))) :
    f88.p2_e4 L N (fun a0 a1 a2 a3 a4 a5 a6 => (k1_e2 a0 a1 a2 a3 a4 a5 a6).bind j) (fun a0 a1 a2 a3 a4 a5 a6 a7 a8 a9 => (rec1 a0 a1 a2 a3 a4 a5 a6 a7 a8 a9).bind j) z39 z40 z41 z42 z43 z44 z45 z46 z47 z48 = (f88.p2_e4 L N k1_e2 rec1 z39 z40 z41 z42 z43 z44 z45 z46 z47 z48).bind j := by
  unfold f88.p2_e4
  exact f88.p2_e4'_nat ..
theorem f88.s1'_nat {R R' : Type} (j : R → Option R') (L N : Nat) (k1_e2 : (List (List Int)) → Int → Int → (List (List Move)) → (List Move) → (List (List Move)) → (List (List Move)) → Option R) (rec1 : (List (List Int)) → Int → Int → (List Int) → Int → Int → (List (List Move)) → (List Move) → (List (List Move)) → (List (List Move)) → Option R) (w2 : (List (List Int)) → Int → Int → (List Int) → Int → Int → (List Move) → Int → Int → (List (List Move)) → (List Move) → (List (List Move)) → (List (List Move)) → Option R) (s9 : (List (List Int))) (s10 : Int) (s11 : Int) (s12 : (List Int)) (s13 : Int) (s14 : Int) (s15 : (List (List Move))) (s16 : (List Move)) (s17 : (List (List Move))) (s18 : (List (List Move))) :
    f88.s1' L N (fun a0 a1 a2 a3 a4 a5 a6 => (k1_e2 a0 a1 a2 a3 a4 a5 a6).bind j) (fun a0 a1 a2 a3 a4 a5 a6 a7 a8 a9 => (rec1 a0 a1 a2 a3 a4 a5 a6 a7 a8 a9).bind j) (fun a0 a1 a2 a3 a4 a5 a6 a7 a8 a9 a10 a11 a12 => (w2 a0 a1 a2 a3 a4 a5 a6 a7 a8 a9 a10 a11 a12).bind j) s9 s10 s11 s12 s13 s14 s15 s16 s17 s18 = (f88.s1' L N k1_e2 rec1 w2 s9 s10 s11 s12 s13 s14 s15 s16 s17 s18).bind j := by
  unfold f88.s1'
  repeat' (first | (with_reducible refine cond_nat ?_ ?_) | (with_reducible refine bind_nat fun _ => ?_) | rfl)
theorem f88.s1_nat {R R' : Type} (j : R → Option R') (L N : Nat) (k1_e2 : (List (List Int)) → Int → Int → (List (List Move)) → (List Move) → (List (List Move)) → (List (List Move)) → Option R) (rec1 : (List (List Int)) → Int → Int → (List Int) → Int → Int → (List (List Move)) → (List Move) → (List (List Move)) → (List (List Move)) → Option R) (s9 : (List (List Int))) (s10 : Int) (s11 : Int) (s12 : (List Int)) (s13 : Int) (s14 : Int) (s15 : (List (List Move))) (s16 : (List Move)) (s17 : (List (List Move))) (s18 : (List (List Move))) :
    f88.s1 L N (fun a0 a1 a2 a3 a4 a5 a6 => (k1_e2 a0 a1 a2 a3 a4 a5 a6).bind j) (fun a0 a1 a2 a3 a4 a5 a6 a7 a8 a9 => (rec1 a0 a1 a2 a3 a4 a5 a6 a7 a8 a9).bind j) s9 s10 s11 s12 s13 s14 s15 s16 s17 s18 = (f88.s1 L N k1_e2 rec1 s9 s10 s11 s12 s13 s14 s15 s16 s17 s18).bind j := by
  unfold f88.s1
  simp only [f88.l2_nat, f88.p2_e4_nat]
  exact f88.s1'_nat ..
theorem f88.l1_nat {R R' : Type} (j : R → Option R') (L N : Nat) (k1_e2 : (List (List Int)) → Int → Int → (List (List Move)) → (List Move) → (List (List Move)) → (List (List Move)) → Option R) : ∀ (n : Nat) (s9 : (List (List Int))) (s10 : Int) (s11 : Int) (s12 : (List Int)) (s13 : Int) (s14 : Int) (s15 : (List (List Move))) (s16 : (List Move)) (s17 : (List (List Move))) (s18 : (List (List Move))),
    f88.l1 L N (fun a0 a1 a2 a3 a4 a5 a6 => (k1_e2 a0 a1 a2 a3 a4 a5 a6).bind j) n s9 s10 s11 s12 s13 s14 s15 s16 s17 s18 = (f88.l1 L N k1_e2 n s9 s10 s11 s12 s13 s14 s15 s16 s17 s18).bind j := by
  intro n
  induction n with
  | zero => intros; rfl
  | succ n ih =>
    intro s9 s10 s11 s12 s13 s14 s15 s16 s17 s18
    show f88.s1 L N (fun a0 a1 a2 a3 a4 a5 a6 => (k1_e2 a0 a1 a2 a3 a4 a5 a6).bind j) (f88.l1 L N (fun a0 a1 a2 a3 a4 a5 a6 => (k1_e2 a0 a1 a2 a3 a4 a5 a6).bind j) n) s9 s10 s11 s12 s13 s14 s15 s16 s17 s18 = _
    rw [show f88.l1 L N (fun a0 a1 a2 a3 a4 a5 a6 => (k1_e2 a0 a1 a2 a3 a4 a5 a6).bind j) n = (fun s9 s10 s11 s12 s13 s14 s15 s16 s17 s18 => (f88.l1 L N k1_e2 n s9 s10 s11 s12 s13 s14 s15 s16 s17 s18).bind j) from funext fun s9 => funext fun s10 => funext fun s11 => funext fun s12 => funext fun s13 => funext fun s14 => funext fun s15 => funext fun s16 => funext fun s17 => funext fun s18 => ih s9 s10 s11 s12 s13 s14 s15 s16 s17 s18]
    exact f88.s1_nat ..
theorem f88.p1_e2'_nat {R R' : Type} (j : R → Option R') (L N : Nat) (k0_e0 : (List (List Move)) → (List (List Move)) → Option R) (rec0 : (List (List Int)) → Int → Int → (List (List Move)) → (List (List Move)) → (List (List Move)) → Option R) (z19 : (List (List Int))) (z20 : Int) (z21 : Int) (z22 : (List (List Move))) (z23 : (List Move)) (z24 : (List (List Move))) (z25 : (List (List Move))) :
    f88.p1_e2' L N (fun a0 a1 => (k0_e0 a0 a1).bind j) (fun a0 a1 a2 a3 a4 a5 => (rec0 a0 a1 a2 a3 a4 a5).bind j) z19 z20 z21 z22 z23 z24 z25 = (f88.p1_e2' L N k0_e0 rec0 z19 z20 z21 z22 z23 z24 z25).bind j := by
  unfold f88.p1_e2'
  repeat' (first | (with_reducible refine cond_nat ?_ ?_) | (with_reducible refine bind_nat fun _ => ?_) | rfl)
theorem f88.p1_e2_nat {R R' : Type} (j : R → Option R') (L N : Nat) (k0_e0 : (List (List Move)) → (List (List Move)) → Option R) (rec0 : (List (List Int)) → Int → Int → (List (List Move)) → (List (List Move)) → (List (List Move)) → Option R) (z19 : (List (List Int))) (z20 : Int) (z21 : Int) (z22 : (List (List Move))) (z23 : (List Move)) (z24 : (List (List Move))) (z25 : (List (List Move))) :
    f88.p1_e2 L N (fun a0 a1 => (k0_e0 a0 a1).bind j) (fun a0 a1 a2 a3 a4 a5 => (rec0 a0 a1 a2 a3 a4 a5).bind j) z19 z20 z21 z22 z23 z24 z25 = (f88.p1_e2 L N k0_e0 rec0 z19 z20 z21 z22 z23 z24 z25).bind j := by
  unfold f88.p1_e2
  exact f88.p1_e2'_nat ..
theorem f88.s0'_nat {R R' : Type} (j : R → Option R') (L N : Nat) (k0_e0 : (List (List Move)) → (List (List Move)) → Option R) (rec0 : (List (List Int)) → Int → Int → (List (List Move)) → (List (List Move)) → (List (List Move)) → Option R) (w1 : (List (List Int)) → Int → Int → (List Int) → Int → Int → (List (List Move)) → (List Move) → (List (List Move)) → (List (List Move)) → Option R) (s1 : (List (List Int))) (s2 : Int) (s3 : Int) (s4 : (List (List Move))) (s5 : (List (List Move))) (s6 : (List (List Move))) :
    f88.s0' L N (fun a0 a1 => (k0_e0 a0 a1).bind j) (fun a0 a1 a2 a3 a4 a5 => (rec0 a0 a1 a2 a3 a4 a5).bind j) (fun a0 a1 a2 a3 a4 a5 a6 a7 a8 a9 => (w1 a0 a1 a2 a3 a4 a5 a6 a7 a8 a9).bind j) s1 s2 s3 s4 s5 s6 = (f88.s0' L N k0_e0 rec0 w1 s1 s2 s3 s4 s5 s6).bind j := by
  unfold f88.s0'
  repeat' (first | (with_reducible refine cond_nat ?_ ?_) | (with_reducible refine bind_nat fun _ => ?_) | rfl)
theorem f88.s0_nat {R R' : Type} (j : R → Option R') (L N : Nat) (k0_e0 : (List (List Move)) → (List (List Move)) → Option R) (rec0 : (List (List Int)) → Int → Int → (List (List Move)) → (List (List Move)) → (List (List Move)) → Option R) (s1 : (List (List Int))) (s2 : Int) (s3 : Int) (s4 : (List (List Move))) (s5 : (List (List Move))) (s6 : (List (List Move))) :
    f88.s0 L N (fun a0 a1 => (k0_e0 a0 a1).bind j) (fun a0 a1 a2 a3 a4 a5 => (rec0 a0 a1 a2 a3 a4 a5).bind j) s1 s2 s3 s4 s5 s6 = (f88.s0 L N k0_e0 rec0 s1 s2 s3 s4 s5 s6).bind j := by
  unfold f88.s0
  simp only [f88.l1_nat, f88.p1_e2_nat]
  exact f88.s0'_nat ..
theorem f88.l0_nat {R R' : Type} (j : R → Option R') (L N : Nat) (k0_e0 : (List (List Move)) → (List (List Move)) → Option R) : ∀ (n : Nat) (s1 : (List (List Int))) (s2 : Int) (s3 : Int) (s4 : (List (List Move))) (s5 : (List (List Move))) (s6 : (List (List Move))),
    f88.l0 L N (fun a0 a1 => (k0_e0 a0 a1).bind j) n s1 s2 s3 s4 s5 s6 = (f88.l0 L N k0_e0 n s1 s2 s3 s4 s5 s6).bind j := by
  intro n
  induction n with
  | zero => intros; rfl
  | succ n ih =>
    intro s1 s2 s3 s4 s5 s6
    show f88.s0 L N (fun a0 a1 => (k0_e0 a0 a1).bind j) (f88.l0 L N (fun a0 a1 => (k0_e0 a0 a1).bind j) n) s1 s2 s3 s4 s5 s6 = _
    rw [show f88.l0 L N (fun a0 a1 => (k0_e0 a0 a1).bind j) n = (fun s1 s2 s3 s4 s5 s6 => (f88.l0 L N k0_e0 n s1 s2 s3 s4 s5 s6).bind j) from funext fun s1 => funext fun s2 => funext fun s3 => funext fun s4 => funext fun s5 => funext fun s6 => ih s1 s2 s3 s4 s5 s6]
    exact f88.s0_nat ..
theorem f88.p0_e0'_nat {R R' : Type} (j : R → Option R') (L N : Nat) (k : (List (List Move)) → Option R) (z7 : (List (List Move))) (z8 : (List (List Move))) :
    f88.p0_e0' L N (fun a0 => (k a0).bind j) z7 z8 = (f88.p0_e0' L N k z7 z8).bind j := by
  unfold f88.p0_e0'
  repeat' (first | (with_reducible refine cond_nat ?_ ?_) | (with_reducible refine bind_nat fun _ => ?_) | rfl)
theorem f88.p0_e0_nat {R R' : Type} (j : R → Option R') (L N : Nat) (k : (List (List Move)) → Option R) (z7 : (List (List Move))) (z8 : (List (List Move))) :
    f88.p0_e0 L N (fun a0 => (k a0).bind j) z7 z8 = (f88.p0_e0 L N k z7 z8).bind j := by
  unfold f88.p0_e0
  exact f88.p0_e0'_nat ..
theorem f88.b'_nat {R R' : Type} (j : R → Option R') (L N : Nat) (k : (List (List Move)) → Option R) (w0 : (List (List Int)) → Int → Int → (List (List Move)) → (List (List Move)) → (List (List Move)) → Option R) (x0 : Graph) :
    f88.b' L N (fun a0 => (k a0).bind j) (fun a0 a1 a2 a3 a4 a5 => (w0 a0 a1 a2 a3 a4 a5).bind j) x0 = (f88.b' L N k w0 x0).bind j := by
  unfold f88.b'
  repeat' (first | (with_reducible refine cond_nat ?_ ?_) | (with_reducible refine bind_nat fun _ => ?_) | rfl)
theorem f88.b_nat {R R' : Type} (j : R → Option R') (L N : Nat) (k : (List (List Move)) → Option R) (x0 : Graph) :
    f88.b L N (fun a0 => (k a0).bind j) x0 = (f88.b L N k x0).bind j := by
  unfold f88.b
  simp only [f88.l0_nat, f88.p0_e0_nat]
  exact f88.b'_nat ..
theorem f88.ok (L N : Nat) (hΦ : TellsOk Try.prog ((Φ124 L N))) : EntOk Try.prog 88 (f88.ent L N) := by
  intro args vw site h
  unfold f88.ent
  split
  · rename_i d ha
    intro y hy hs
    refine call_ron (dep := 1000) (E := (E88 L N)) (ts := [(.st 2)]) (rn := (.agg [])) (q := (some 0)) (el := 51) (ty := (.sl (.st 0))) (d1 := (())) (xs := y) (sound_of hΦ) okP (callI_sound (sound_of hΦ) okP 1 2000) (f := Try.f88) rfl hs ha ?_ rfl site
    refine (f88.b_eq L N (fun d xs => some (d, xs)) d.1).trans ?_
    refine ((f88.b_nat (fun y => (some ((()), y) : Option (RN.Den (.agg []) × List (List Move)))) L N some d.1)).trans ?_
    rw [show f88.b L N some d.1 = some y from hy]
    rfl
  · intro y hy
    cases hy
def Φ88 (L N : Nat) : Tells := (addT (Φ124 L N) 88 (f88.ent L N))
theorem Φ88_ok (L N : Nat) : TellsOk Try.prog (Φ88 L N) := addT_ok (Φ124_ok L N) (f88.ok L N (Φ124_ok L N))
def f47.b' {R : Type} (L N : Nat) (k : (List (List Move)) → Bool → Option R) (x0 : Graph) : Option R :=
  (f32 L N (Graph.mk x0.moves)).bind fun y0 =>
  bif (!y0) then
    k [] false
  else (f88 L N (Graph.mk x0.moves)).bind fun y1 =>
  k y1 true
def f47.b {R : Type} (L N : Nat) (k : (List (List Move)) → Bool → Option R) (x0 : Graph) : Option R :=
  f47.b' L N k x0
def f47 (L N : Nat) (x0 : Graph) : Option ((List (List Move)) × Bool) := f47.b L N (fun a0 a1 => some (a0, a1)) x0
def f47.ent (L N : Nat) (args : List AV) (vw : View) (site : Nat) : Ans := match roD [(.st 2)] vw args with
  | some d => ⟨(List (List Move)) × Bool, f47 L N d.1, fun y => (RN.av site (.tup (.agg []) [.bool]) ((()), (y.2, ())), [(site, some (mkO (some 0) 51 (.sl (.st 0)) y.1))], [])⟩
  | none => Ans.no
noncomputable def E47 (L N : Nat) : Env := { P := Try.prog, ty := tyOf, Φ := (Φ88 L N), inl := inlT, live := lives, liveX := livesX, L := L, dp := (some 0), prom := promT, heal := healT, ren := renT }
theorem f47.b_pre {R : Type} (L N : Nat) (κ : RN.Den (.tup (.agg []) [.bool]) → List (List Move) → Option R) (x0 : Graph) :
    evBody (E47 L N) (evCallI (E47 L N) 1 2000) 1000 47 Try.f47 [(.tv (.st 2) x0)] [] [] (finN (.tup (.agg []) [.bool]) (some 0) 51 (.sl (.st 0)) κ)
    = f47.b' L N (fun a0 a1 => κ ((()), (a1, ())) a0) x0 := by kernel_rfl
theorem f47.b_eq {R : Type} (L N : Nat) (κ : RN.Den (.tup (.agg []) [.bool]) → List (List Move) → Option R) (x0 : Graph) :
    evBody (E47 L N) (evCallI (E47 L N) 1 2000) 1000 47 Try.f47 [(.tv (.st 2) x0)] [] [] (finN (.tup (.agg []) [.bool]) (some 0) 51 (.sl (.st 0)) κ)
    = f47.b L N (fun a0 a1 => κ ((()), (a1, ())) a0) x0 := by
  rw [f47.b_pre]
  unfold f47.b
  rfl
theorem f47.b'_nat {R R' : Type} (j : R → Option R') (L N : Nat) (k : (List (List Move)) → Bool → Option R) (x0 : Graph) :
    f47.b' L N (fun a0 a1 => (k a0 a1).bind j) x0 = (f47.b' L N k x0).bind j := by
  unfold f47.b'
  repeat' (first | (with_reducible refine cond_nat ?_ ?_) | (with_reducible refine bind_nat fun _ => ?_) | rfl)
theorem f47.b_nat {R R' : Type} (j : R → Option R') (L N : Nat) (k : (List (List Move)) → Bool → Option R) (x0 : Graph) :
    f47.b L N (fun a0 a1 => (k a0 a1).bind j) x0 = (f47.b L N k x0).bind j := by
  unfold f47.b
  exact f47.b'_nat ..
theorem f47.ok (L N : Nat) (hΦ : TellsOk Try.prog ((Φ88 L N))) : EntOk Try.prog 47 (f47.ent L N) := by
  intro args vw site h
  unfold f47.ent
  split
  · rename_i d ha
    intro y hy hs
    refine call_ron (dep := 1000) (E := (E47 L N)) (ts := [(.st 2)]) (rn := (.tup (.agg []) [.bool])) (q := (some 0)) (el := 51) (ty := (.sl (.st 0))) (d1 := ((()), (y.2, ()))) (xs := y.1) (sound_of hΦ) okP (callI_sound (sound_of hΦ) okP 1 2000) (f := Try.f47) rfl hs ha ?_ rfl site
    refine (f47.b_eq L N (fun d xs => some (d, xs)) d.1).trans ?_
    refine ((f47.b_nat (fun y => (some (((()), (y.2, ())), y.1) : Option (RN.Den (.tup (.agg []) [.bool]) × List (List Move)))) L N (fun a0 a1 => some (a0, a1)) d.1)).trans ?_
    rw [show f47.b L N (fun a0 a1 => some (a0, a1)) d.1 = some y from hy]
    rfl
  · intro y hy
    cases hy
def Φ47 (L N : Nat) : Tells := (addT (Φ88 L N) 47 (f47.ent L N))
theorem Φ47_ok (L N : Nat) : TellsOk Try.prog (Φ47 L N) := addT_ok (Φ88_ok L N) (f47.ok L N (Φ88_ok L N))
def f125.s0' {R : Type} (L N : Nat) (k0_e0 : Int → Option R) (k0_r : Int → Int → Option R) (rec0 : (List Move) → Int → Int → Option R) (s0 : (List Move)) (s1 : Int) (s2 : Int) : Option R :=
  bif (decide (s2 < (s0.length : Int))) then
    bif (decide (0 ≤ s2) && decide (s2 < (s0.length : Int))) then
      bif ((listAt s0 (Ty.dflt (.st 0)) s2.toNat).act != s1) then
        k0_r s1 (-1 : Int)
      else bif (decide (0 ≤ s2) && decide (s2 < (s0.length : Int))) then
        bif ((listAt s0 (Ty.dflt (.st 0)) s2.toNat).to != (wi (s1 + (1 : Int)))) then
          k0_r (wi (s1 + (1 : Int))) (-1 : Int)
        else rec0 s0 (wi ((wi (s1 + (1 : Int))) + (1 : Int))) (wi (s2 + (1 : Int)))
      else none
    else none
  else k0_e0 s1
def f125.s0 {R : Type} (L N : Nat) (k0_e0 : Int → Option R) (k0_r : Int → Int → Option R) (rec0 : (List Move) → Int → Int → Option R) (s0 : (List Move)) (s1 : Int) (s2 : Int) : Option R :=
  f125.s0' L N k0_e0 k0_r rec0 s0 s1 s2
def f125.l0 {R : Type} (L N : Nat) (k0_e0 : Int → Option R) (k0_r : Int → Int → Option R) : Nat → (List Move) → Int → Int → Option R
  | 0, _, _, _ => none
  | n + 1, s0, s1, s2 => f125.s0 L N k0_e0 k0_r (f125.l0 L N k0_e0 k0_r n) s0 s1 s2
def f125.T0 (s0 : (List Move)) (s1 : Int) (s2 : Int) : T := mkT 31 [(0, (.tv (.sl (.st 0)) s0)), (1, (.tv i64 s1)), (5, (.tv i64 s2))]
def f125.H0 (s0 : (List Move)) (s1 : Int) (s2 : Int) : H := []
def f125.T0_e0 (z3 : Int) : T := mkT 31 [(1, (.tv i64 z3))]
def f125.H0_e0 (z3 : Int) : H := []
def f125.T0_r (z4 : Int) (z5 : Int) : T := mkT 31 [(1, (.tv i64 z4)), (4, (.tv i64 z5))]
def f125.H0_r (z4 : Int) (z5 : Int) : H := []
def f125.p0_e0' {R : Type} (L N : Nat) (k : Int → Option R) (z3 : Int) : Option R :=
  k z3
def f125.p0_e0 {R : Type} (L N : Nat) (k : Int → Option R) (z3 : Int) : Option R :=
  f125.p0_e0' L N k z3
def f125.p0_r' {R : Type} (L N : Nat) (k : Int → Option R) (z4 : Int) (z5 : Int) : Option R :=
  k z5
def f125.p0_r {R : Type} (L N : Nat) (k : Int → Option R) (z4 : Int) (z5 : Int) : Option R :=
  f125.p0_r' L N k z4 z5
def f125.b' {R : Type} (L N : Nat) (k : Int → Option R) (w0 : (List Move) → Int → Int → Option R) (x0 : (List Move)) (x1 : Int) : Option R :=
  w0 x0 x1 (0 : Int)
def f125.b {R : Type} (L N : Nat) (k : Int → Option R) (x0 : (List Move)) (x1 : Int) : Option R :=
  f125.b' L N k (fun s0 s1 s2 => f125.l0 L N (fun z3 => f125.p0_e0 L N k z3) (fun z4 z5 => f125.p0_r L N k z4 z5) L s0 s1 s2) x0 x1
def f125 (L N : Nat) (x0 : (List Move)) (x1 : Int) : Option (Int) := f125.b L N some x0 x1
def f125.ent (L N : Nat) (args : List AV) (vw : View) (site : Nat) : Ans := match roD [(.sl (.st 0)), i64] vw args with
  | some d => ⟨Int, f125 L N d.1 d.2.1, fun y => ((.tv i64 y), [], [])⟩
  | none => Ans.no
noncomputable def E125 (L N : Nat) : Env := { P := Try.prog, ty := tyOf, Φ := (Φ47 L N), inl := inlT, live := lives, liveX := livesX, L := L, dp := none, prom := promT, heal := healT, ren := renT }
noncomputable def f125.c0 : Code := loopAt 0 (codeOf Try.f125)
theorem f125.s0_pre {R : Type} (L N : Nat) (κ : Ex → T → H → Option R) (rec : T → H → Option R) (s0 : (List Move)) (s1 : Int) (s2 : Int) :
    evRd (E125 L N) (evCallI (E125 L N) 1 2000) 1000 125 31 0 f125.c0 κ rec (f125.T0 s0 s1 s2) (f125.H0 s0 s1 s2)
    = f125.s0' L N (fun z3 => κ (.exit 0) (f125.T0_e0 z3) (f125.H0_e0 z3)) (fun z4 z5 => κ .ret (f125.T0_r z4 z5) (f125.H0_r z4 z5)) (fun s0 s1 s2 => rec (f125.T0 s0 s1 s2) (f125.H0 s0 s1 s2)) s0 s1 s2 := by kernel_rfl
theorem f125.s0_eq {R : Type} (L N : Nat) (κ : Ex → T → H → Option R) (rec : T → H → Option R) (s0 : (List Move)) (s1 : Int) (s2 : Int) :
    evRd (E125 L N) (evCallI (E125 L N) 1 2000) 1000 125 31 0 f125.c0 κ rec (f125.T0 s0 s1 s2) (f125.H0 s0 s1 s2)
    = f125.s0 L N (fun z3 => κ (.exit 0) (f125.T0_e0 z3) (f125.H0_e0 z3)) (fun z4 z5 => κ .ret (f125.T0_r z4 z5) (f125.H0_r z4 z5)) (fun s0 s1 s2 => rec (f125.T0 s0 s1 s2) (f125.H0 s0 s1 s2)) s0 s1 s2 := by
  rw [f125.s0_pre]
  unfold f125.s0
  rfl
theorem f125.l0_eq {R : Type} (L N : Nat) (κ : Ex → T → H → Option R) : ∀ (n : Nat) (s0 : (List Move)) (s1 : Int) (s2 : Int),
    evLp (E125 L N) (evCallI (E125 L N) 1 2000) 1000 125 31 0 f125.c0 κ n (f125.T0 s0 s1 s2) (f125.H0 s0 s1 s2)
    = f125.l0 L N (fun z3 => κ (.exit 0) (f125.T0_e0 z3) (f125.H0_e0 z3)) (fun z4 z5 => κ .ret (f125.T0_r z4 z5) (f125.H0_r z4 z5)) n s0 s1 s2 := by
  intro n
  induction n with
  | zero => intros; rfl
  | succ n ih =>
    intro s0 s1 s2
    rw [evLp_succ, f125.s0_eq]
    simp only [ih]
    rfl
theorem f125.p0_e0_pre {R : Type} (L N : Nat) (κ : AV → Option R) (z3 : Int) :
    (contAt (E125 L N) (evCallI (E125 L N) 1 2000) 1000 125 31 0 (codeOf Try.f125) (finK (E125 L N) 1000 Try.f125 (finC (.one i64) κ))) (.exit 0) (f125.T0_e0 z3) (f125.H0_e0 z3)
    = f125.p0_e0' L N (fun a0 => κ (.tv i64 a0)) z3 := by kernel_rfl
theorem f125.p0_e0_eq {R : Type} (L N : Nat) (κ : AV → Option R) (z3 : Int) :
    (contAt (E125 L N) (evCallI (E125 L N) 1 2000) 1000 125 31 0 (codeOf Try.f125) (finK (E125 L N) 1000 Try.f125 (finC (.one i64) κ))) (.exit 0) (f125.T0_e0 z3) (f125.H0_e0 z3)
    = f125.p0_e0 L N (fun a0 => κ (.tv i64 a0)) z3 := by
  rw [f125.p0_e0_pre]
  unfold f125.p0_e0
  rfl
theorem f125.p0_r_pre {R : Type} (L N : Nat) (κ : AV → Option R) (z4 : Int) (z5 : Int) :
    (contAt (E125 L N) (evCallI (E125 L N) 1 2000) 1000 125 31 0 (codeOf Try.f125) (finK (E125 L N) 1000 Try.f125 (finC (.one i64) κ))) .ret (f125.T0_r z4 z5) (f125.H0_r z4 z5)
    = f125.p0_r' L N (fun a0 => κ (.tv i64 a0)) z4 z5 := by kernel_rfl
theorem f125.p0_r_eq {R : Type} (L N : Nat) (κ : AV → Option R) (z4 : Int) (z5 : Int) :
    (contAt (E125 L N) (evCallI (E125 L N) 1 2000) 1000 125 31 0 (codeOf Try.f125) (finK (E125 L N) 1000 Try.f125 (finC (.one i64) κ))) .ret (f125.T0_r z4 z5) (f125.H0_r z4 z5)
    = f125.p0_r L N (fun a0 => κ (.tv i64 a0)) z4 z5 := by
  rw [f125.p0_r_pre]
  unfold f125.p0_r
  rfl
theorem f125.b_pre {R : Type} (L N : Nat) (κ : AV → Option R) (x0 : (List Move)) (x1 : Int) :
    evBody (E125 L N) (evCallI (E125 L N) 1 2000) 1000 125 Try.f125 [(.tv (.sl (.st 0)) x0), (.tv i64 x1)] [] [] (finC (.one i64) κ)
    = f125.b' L N (fun a0 => κ (.tv i64 a0)) (fun s0 s1 s2 => evLp (E125 L N) (evCallI (E125 L N) 1 2000) 1000 125 31 0 f125.c0 (contAt (E125 L N) (evCallI (E125 L N) 1 2000) 1000 125 31 0 (codeOf Try.f125) (finK (E125 L N) 1000 Try.f125 (finC (.one i64) κ))) L (f125.T0 s0 s1 s2) (f125.H0 s0 s1 s2)) x0 x1 := by kernel_rfl
theorem f125.b_eq {R : Type} (L N : Nat) (κ : AV → Option R) (x0 : (List Move)) (x1 : Int) :
    evBody (E125 L N) (evCallI (E125 L N) 1 2000) 1000 125 Try.f125 [(.tv (.sl (.st 0)) x0), (.tv i64 x1)] [] [] (finC (.one i64) κ)
    = f125.b L N (fun a0 => κ (.tv i64 a0)) x0 x1 := by
  rw [f125.b_pre]
  unfold f125.b
  simp only [f125.l0_eq, f125.p0_e0_eq, f125.p0_r_eq]
theorem f125.s0'_nat {R R' : Type} (j : R → Option R') (L N : Nat) (k0_e0 : Int → Option R) (k0_r : Int → Int → Option R) (rec0 : (List Move) → Int → Int → Option R) (s0 : (List Move)) (s1 : Int) (s2 : Int) :
    f125.s0' L N (fun a0 => (k0_e0 a0).bind j) (fun a0 a1 => (k0_r a0 a1).bind j) (fun a0 a1 a2 => (rec0 a0 a1 a2).bind j) s0 s1 s2 = (f125.s0' L N k0_e0 k0_r rec0 s0 s1 s2).bind j := by
  unfold f125.s0'
  repeat' (first | (with_reducible refine cond_nat ?_ ?_) | (with_reducible refine bind_nat fun _ => ?_) | rfl)
theorem f125.s0_nat {R R' : Type} (j : R → Option R') (L N : Nat) (k0_e0 : Int → Option R) (k0_r : Int → Int → Option R) (rec0 : (List Move) → Int → Int → Option R) (s0 : (List Move)) (s1 : Int) (s2 : Int) :
    f125.s0 L N (fun a0 => (k0_e0 a0).bind j) (fun a0 a1 => (k0_r a0 a1).bind j) (fun a0 a1 a2 => (rec0 a0 a1 a2).bind j) s0 s1 s2 = (f125.s0 L N k0_e0 k0_r rec0 s0 s1 s2).bind j := by
  unfold f125.s0
  exact f125.s0'_nat ..
theorem f125.l0_nat {R R' : Type} (j : R → Option R') (L N : Nat) (k0_e0 : Int → Option R) (k0_r : Int → Int → Option R) : ∀ (n : Nat) (s0 : (List Move)) (s1 : Int) (s2 : Int),
    f125.l0 L N (fun a0 => (k0_e0 a0).bind j) (fun a0 a1 => (k0_r a0 a1).bind j) n s0 s1 s2 = (f125.l0 L N k0_e0 k0_r n s0 s1 s2).bind j := by
  intro n
  induction n with
  | zero => intros; rfl
  | succ n ih =>
    intro s0 s1 s2
    show f125.s0 L N (fun a0 => (k0_e0 a0).bind j) (fun a0 a1 => (k0_r a0 a1).bind j) (f125.l0 L N (fun a0 => (k0_e0 a0).bind j) (fun a0 a1 => (k0_r a0 a1).bind j) n) s0 s1 s2 = _
    rw [show f125.l0 L N (fun a0 => (k0_e0 a0).bind j) (fun a0 a1 => (k0_r a0 a1).bind j) n = (fun s0 s1 s2 => (f125.l0 L N k0_e0 k0_r n s0 s1 s2).bind j) from funext fun s0 => funext fun s1 => funext fun s2 => ih s0 s1 s2]
    exact f125.s0_nat ..
theorem f125.p0_e0'_nat {R R' : Type} (j : R → Option R') (L N : Nat) (k : Int → Option R) (z3 : Int) :
    f125.p0_e0' L N (fun a0 => (k a0).bind j) z3 = (f125.p0_e0' L N k z3).bind j := by
  unfold f125.p0_e0'
  repeat' (first | (with_reducible refine cond_nat ?_ ?_) | (with_reducible refine bind_nat fun _ => ?_) | rfl)
theorem f125.p0_e0_nat {R R' : Type} (j : R → Option R') (L N : Nat) (k : Int → Option R) (z3 : Int) :
    f125.p0_e0 L N (fun a0 => (k a0).bind j) z3 = (f125.p0_e0 L N k z3).bind j := by
  unfold f125.p0_e0
  exact f125.p0_e0'_nat ..
theorem f125.p0_r'_nat {R R' : Type} (j : R → Option R') (L N : Nat) (k : Int → Option R) (z4 : Int) (z5 : Int) :
    f125.p0_r' L N (fun a0 => (k a0).bind j) z4 z5 = (f125.p0_r' L N k z4 z5).bind j := by
  unfold f125.p0_r'
  repeat' (first | (with_reducible refine cond_nat ?_ ?_) | (with_reducible refine bind_nat fun _ => ?_) | rfl)
theorem f125.p0_r_nat {R R' : Type} (j : R → Option R') (L N : Nat) (k : Int → Option R) (z4 : Int) (z5 : Int) :
    f125.p0_r L N (fun a0 => (k a0).bind j) z4 z5 = (f125.p0_r L N k z4 z5).bind j := by
  unfold f125.p0_r
  exact f125.p0_r'_nat ..
theorem f125.b'_nat {R R' : Type} (j : R → Option R') (L N : Nat) (k : Int → Option R) (w0 : (List Move) → Int → Int → Option R) (x0 : (List Move)) (x1 : Int) :
    f125.b' L N (fun a0 => (k a0).bind j) (fun a0 a1 a2 => (w0 a0 a1 a2).bind j) x0 x1 = (f125.b' L N k w0 x0 x1).bind j := by
  unfold f125.b'
  repeat' (first | (with_reducible refine cond_nat ?_ ?_) | (with_reducible refine bind_nat fun _ => ?_) | rfl)
theorem f125.b_nat {R R' : Type} (j : R → Option R') (L N : Nat) (k : Int → Option R) (x0 : (List Move)) (x1 : Int) :
    f125.b L N (fun a0 => (k a0).bind j) x0 x1 = (f125.b L N k x0 x1).bind j := by
  unfold f125.b
  simp only [f125.l0_nat, f125.p0_e0_nat, f125.p0_r_nat]
  exact f125.b'_nat ..
theorem f125.ok (L N : Nat) (hΦ : TellsOk Try.prog ((Φ47 L N))) : EntOk Try.prog 125 (f125.ent L N) := by
  intro args vw site h
  unfold f125.ent
  split
  · rename_i d ha
    intro y hy hs
    refine call_ro (dep := 1000) (E := (E125 L N)) (rs := (.one i64)) (v := (.tv i64 y)) (sound_of hΦ) okP (callI_sound (sound_of hΦ) okP 1 2000) (f := Try.f125) rfl hs ha ?_ rfl site
    refine (f125.b_eq L N some d.1 d.2.1).trans ?_
    refine ((f125.b_nat (fun y => (some (.tv i64 y) : Option AV)) L N some d.1 d.2.1)).trans ?_
    rw [show f125.b L N some d.1 d.2.1 = some y from hy]
    rfl
  · intro y hy
    cases hy
def Φ125 (L N : Nat) : Tells := (addT (Φ47 L N) 125 (f125.ent L N))
theorem Φ125_ok (L N : Nat) : TellsOk Try.prog (Φ125 L N) := addT_ok (Φ47_ok L N) (f125.ok L N (Φ47_ok L N))
def f89.s0' {R : Type} (L N : Nat) (k0_e0 : Int → Option R) (k0_r : Int → Int → Option R) (rec0 : (List (List Move)) → Int → Int → Option R) (s0 : (List (List Move))) (s1 : Int) (s2 : Int) : Option R :=
  bif (decide (s2 < (s0.length : Int))) then
    bif (decide (0 ≤ s2) && decide (s2 < (s0.length : Int))) then
      (f125 L N (listAt s0 [] s2.toNat) s1).bind fun y4 =>
      bif (decide (y4 < (0 : Int))) then
        k0_r y4 (-1 : Int)
      else rec0 s0 y4 (wi (s2 + (1 : Int)))
    else none
  else k0_e0 s1
def f89.s0 {R : Type} (L N : Nat) (k0_e0 : Int → Option R) (k0_r : Int → Int → Option R) (rec0 : (List (List Move)) → Int → Int → Option R) (s0 : (List (List Move))) (s1 : Int) (s2 : Int) : Option R :=
  f89.s0' L N k0_e0 k0_r rec0 s0 s1 s2
def f89.l0 {R : Type} (L N : Nat) (k0_e0 : Int → Option R) (k0_r : Int → Int → Option R) : Nat → (List (List Move)) → Int → Int → Option R
  | 0, _, _, _ => none
  | n + 1, s0, s1, s2 => f89.s0 L N k0_e0 k0_r (f89.l0 L N k0_e0 k0_r n) s0 s1 s2
def f89.T0 (s0 : (List (List Move))) (s1 : Int) (s2 : Int) : T := mkT 21 [(0, (.tv (.sl (.sl (.st 0))) s0)), (1, (.tv i64 s1)), (5, (.tv i64 s2))]
def f89.H0 (s0 : (List (List Move))) (s1 : Int) (s2 : Int) : H := []
def f89.T0_e0 (z3 : Int) : T := mkT 21 [(1, (.tv i64 z3))]
def f89.H0_e0 (z3 : Int) : H := []
def f89.T0_r (z5 : Int) (z6 : Int) : T := mkT 21 [(1, (.tv i64 z5)), (4, (.tv i64 z6))]
def f89.H0_r (z5 : Int) (z6 : Int) : H := []
def f89.p0_e0' {R : Type} (L N : Nat) (k : Int → Option R) (z3 : Int) : Option R :=
  k z3
def f89.p0_e0 {R : Type} (L N : Nat) (k : Int → Option R) (z3 : Int) : Option R :=
  f89.p0_e0' L N k z3
def f89.p0_r' {R : Type} (L N : Nat) (k : Int → Option R) (z5 : Int) (z6 : Int) : Option R :=
  k z6
def f89.p0_r {R : Type} (L N : Nat) (k : Int → Option R) (z5 : Int) (z6 : Int) : Option R :=
  f89.p0_r' L N k z5 z6
def f89.b' {R : Type} (L N : Nat) (k : Int → Option R) (w0 : (List (List Move)) → Int → Int → Option R) (x0 : (List (List Move))) (x1 : Int) : Option R :=
  w0 x0 x1 (0 : Int)
def f89.b {R : Type} (L N : Nat) (k : Int → Option R) (x0 : (List (List Move))) (x1 : Int) : Option R :=
  f89.b' L N k (fun s0 s1 s2 => f89.l0 L N (fun z3 => f89.p0_e0 L N k z3) (fun z5 z6 => f89.p0_r L N k z5 z6) L s0 s1 s2) x0 x1
def f89 (L N : Nat) (x0 : (List (List Move))) (x1 : Int) : Option (Int) := f89.b L N some x0 x1
def f89.ent (L N : Nat) (args : List AV) (vw : View) (site : Nat) : Ans := match roD [(.sl (.sl (.st 0))), i64] vw args with
  | some d => ⟨Int, f89 L N d.1 d.2.1, fun y => ((.tv i64 y), [], [])⟩
  | none => Ans.no
noncomputable def E89 (L N : Nat) : Env := { P := Try.prog, ty := tyOf, Φ := (Φ125 L N), inl := inlT, live := lives, liveX := livesX, L := L, dp := none, prom := promT, heal := healT, ren := renT }
noncomputable def f89.c0 : Code := loopAt 0 (codeOf Try.f89)
theorem f89.s0_pre {R : Type} (L N : Nat) (κ : Ex → T → H → Option R) (rec : T → H → Option R) (s0 : (List (List Move))) (s1 : Int) (s2 : Int) :
    evRd (E89 L N) (evCallI (E89 L N) 1 2000) 1000 89 21 0 f89.c0 κ rec (f89.T0 s0 s1 s2) (f89.H0 s0 s1 s2)
    = f89.s0' L N (fun z3 => κ (.exit 0) (f89.T0_e0 z3) (f89.H0_e0 z3)) (fun z5 z6 => κ .ret (f89.T0_r z5 z6) (f89.H0_r z5 z6)) (fun s0 s1 s2 => rec (f89.T0 s0 s1 s2) (f89.H0 s0 s1 s2)) s0 s1 s2 := by kernel_rfl
theorem f89.s0_eq {R : Type} (L N : Nat) (κ : Ex → T → H → Option R) (rec : T → H → Option R) (s0 : (List (List Move))) (s1 : Int) (s2 : Int) :
    evRd (E89 L N) (evCallI (E89 L N) 1 2000) 1000 89 21 0 f89.c0 κ rec (f89.T0 s0 s1 s2) (f89.H0 s0 s1 s2)
    = f89.s0 L N (fun z3 => κ (.exit 0) (f89.T0_e0 z3) (f89.H0_e0 z3)) (fun z5 z6 => κ .ret (f89.T0_r z5 z6) (f89.H0_r z5 z6)) (fun s0 s1 s2 => rec (f89.T0 s0 s1 s2) (f89.H0 s0 s1 s2)) s0 s1 s2 := by
  rw [f89.s0_pre]
  unfold f89.s0
  rfl
theorem f89.l0_eq {R : Type} (L N : Nat) (κ : Ex → T → H → Option R) : ∀ (n : Nat) (s0 : (List (List Move))) (s1 : Int) (s2 : Int),
    evLp (E89 L N) (evCallI (E89 L N) 1 2000) 1000 89 21 0 f89.c0 κ n (f89.T0 s0 s1 s2) (f89.H0 s0 s1 s2)
    = f89.l0 L N (fun z3 => κ (.exit 0) (f89.T0_e0 z3) (f89.H0_e0 z3)) (fun z5 z6 => κ .ret (f89.T0_r z5 z6) (f89.H0_r z5 z6)) n s0 s1 s2 := by
  intro n
  induction n with
  | zero => intros; rfl
  | succ n ih =>
    intro s0 s1 s2
    rw [evLp_succ, f89.s0_eq]
    simp only [ih]
    rfl
theorem f89.p0_e0_pre {R : Type} (L N : Nat) (κ : AV → Option R) (z3 : Int) :
    (contAt (E89 L N) (evCallI (E89 L N) 1 2000) 1000 89 21 0 (codeOf Try.f89) (finK (E89 L N) 1000 Try.f89 (finC (.one i64) κ))) (.exit 0) (f89.T0_e0 z3) (f89.H0_e0 z3)
    = f89.p0_e0' L N (fun a0 => κ (.tv i64 a0)) z3 := by kernel_rfl
theorem f89.p0_e0_eq {R : Type} (L N : Nat) (κ : AV → Option R) (z3 : Int) :
    (contAt (E89 L N) (evCallI (E89 L N) 1 2000) 1000 89 21 0 (codeOf Try.f89) (finK (E89 L N) 1000 Try.f89 (finC (.one i64) κ))) (.exit 0) (f89.T0_e0 z3) (f89.H0_e0 z3)
    = f89.p0_e0 L N (fun a0 => κ (.tv i64 a0)) z3 := by
  rw [f89.p0_e0_pre]
  unfold f89.p0_e0
  rfl
theorem f89.p0_r_pre {R : Type} (L N : Nat) (κ : AV → Option R) (z5 : Int) (z6 : Int) :
    (contAt (E89 L N) (evCallI (E89 L N) 1 2000) 1000 89 21 0 (codeOf Try.f89) (finK (E89 L N) 1000 Try.f89 (finC (.one i64) κ))) .ret (f89.T0_r z5 z6) (f89.H0_r z5 z6)
    = f89.p0_r' L N (fun a0 => κ (.tv i64 a0)) z5 z6 := by kernel_rfl
theorem f89.p0_r_eq {R : Type} (L N : Nat) (κ : AV → Option R) (z5 : Int) (z6 : Int) :
    (contAt (E89 L N) (evCallI (E89 L N) 1 2000) 1000 89 21 0 (codeOf Try.f89) (finK (E89 L N) 1000 Try.f89 (finC (.one i64) κ))) .ret (f89.T0_r z5 z6) (f89.H0_r z5 z6)
    = f89.p0_r L N (fun a0 => κ (.tv i64 a0)) z5 z6 := by
  rw [f89.p0_r_pre]
  unfold f89.p0_r
  rfl
theorem f89.b_pre {R : Type} (L N : Nat) (κ : AV → Option R) (x0 : (List (List Move))) (x1 : Int) :
    evBody (E89 L N) (evCallI (E89 L N) 1 2000) 1000 89 Try.f89 [(.tv (.sl (.sl (.st 0))) x0), (.tv i64 x1)] [] [] (finC (.one i64) κ)
    = f89.b' L N (fun a0 => κ (.tv i64 a0)) (fun s0 s1 s2 => evLp (E89 L N) (evCallI (E89 L N) 1 2000) 1000 89 21 0 f89.c0 (contAt (E89 L N) (evCallI (E89 L N) 1 2000) 1000 89 21 0 (codeOf Try.f89) (finK (E89 L N) 1000 Try.f89 (finC (.one i64) κ))) L (f89.T0 s0 s1 s2) (f89.H0 s0 s1 s2)) x0 x1 := by kernel_rfl
theorem f89.b_eq {R : Type} (L N : Nat) (κ : AV → Option R) (x0 : (List (List Move))) (x1 : Int) :
    evBody (E89 L N) (evCallI (E89 L N) 1 2000) 1000 89 Try.f89 [(.tv (.sl (.sl (.st 0))) x0), (.tv i64 x1)] [] [] (finC (.one i64) κ)
    = f89.b L N (fun a0 => κ (.tv i64 a0)) x0 x1 := by
  rw [f89.b_pre]
  unfold f89.b
  simp only [f89.l0_eq, f89.p0_e0_eq, f89.p0_r_eq]
theorem f89.s0'_nat {R R' : Type} (j : R → Option R') (L N : Nat) (k0_e0 : Int → Option R) (k0_r : Int → Int → Option R) (rec0 : (List (List Move)) → Int → Int → Option R) (s0 : (List (List Move))) (s1 : Int) (s2 : Int) :
    f89.s0' L N (fun a0 => (k0_e0 a0).bind j) (fun a0 a1 => (k0_r a0 a1).bind j) (fun a0 a1 a2 => (rec0 a0 a1 a2).bind j) s0 s1 s2 = (f89.s0' L N k0_e0 k0_r rec0 s0 s1 s2).bind j := by
  unfold f89.s0'
  repeat' (first | (with_reducible refine cond_nat ?_ ?_) | (with_reducible refine bind_nat fun _ => ?_) | rfl)
theorem f89.s0_nat {R R' : Type} (j : R → Option R') (L N : Nat) (k0_e0 : Int → Option R) (k0_r : Int → Int → Option R) (rec0 : (List (List Move)) → Int → Int → Option R) (s0 : (List (List Move))) (s1 : Int) (s2 : Int) :
    f89.s0 L N (fun a0 => (k0_e0 a0).bind j) (fun a0 a1 => (k0_r a0 a1).bind j) (fun a0 a1 a2 => (rec0 a0 a1 a2).bind j) s0 s1 s2 = (f89.s0 L N k0_e0 k0_r rec0 s0 s1 s2).bind j := by
  unfold f89.s0
  exact f89.s0'_nat ..
theorem f89.l0_nat {R R' : Type} (j : R → Option R') (L N : Nat) (k0_e0 : Int → Option R) (k0_r : Int → Int → Option R) : ∀ (n : Nat) (s0 : (List (List Move))) (s1 : Int) (s2 : Int),
    f89.l0 L N (fun a0 => (k0_e0 a0).bind j) (fun a0 a1 => (k0_r a0 a1).bind j) n s0 s1 s2 = (f89.l0 L N k0_e0 k0_r n s0 s1 s2).bind j := by
  intro n
  induction n with
  | zero => intros; rfl
  | succ n ih =>
    intro s0 s1 s2
    show f89.s0 L N (fun a0 => (k0_e0 a0).bind j) (fun a0 a1 => (k0_r a0 a1).bind j) (f89.l0 L N (fun a0 => (k0_e0 a0).bind j) (fun a0 a1 => (k0_r a0 a1).bind j) n) s0 s1 s2 = _
    rw [show f89.l0 L N (fun a0 => (k0_e0 a0).bind j) (fun a0 a1 => (k0_r a0 a1).bind j) n = (fun s0 s1 s2 => (f89.l0 L N k0_e0 k0_r n s0 s1 s2).bind j) from funext fun s0 => funext fun s1 => funext fun s2 => ih s0 s1 s2]
    exact f89.s0_nat ..
theorem f89.p0_e0'_nat {R R' : Type} (j : R → Option R') (L N : Nat) (k : Int → Option R) (z3 : Int) :
    f89.p0_e0' L N (fun a0 => (k a0).bind j) z3 = (f89.p0_e0' L N k z3).bind j := by
  unfold f89.p0_e0'
  repeat' (first | (with_reducible refine cond_nat ?_ ?_) | (with_reducible refine bind_nat fun _ => ?_) | rfl)
theorem f89.p0_e0_nat {R R' : Type} (j : R → Option R') (L N : Nat) (k : Int → Option R) (z3 : Int) :
    f89.p0_e0 L N (fun a0 => (k a0).bind j) z3 = (f89.p0_e0 L N k z3).bind j := by
  unfold f89.p0_e0
  exact f89.p0_e0'_nat ..
theorem f89.p0_r'_nat {R R' : Type} (j : R → Option R') (L N : Nat) (k : Int → Option R) (z5 : Int) (z6 : Int) :
    f89.p0_r' L N (fun a0 => (k a0).bind j) z5 z6 = (f89.p0_r' L N k z5 z6).bind j := by
  unfold f89.p0_r'
  repeat' (first | (with_reducible refine cond_nat ?_ ?_) | (with_reducible refine bind_nat fun _ => ?_) | rfl)
theorem f89.p0_r_nat {R R' : Type} (j : R → Option R') (L N : Nat) (k : Int → Option R) (z5 : Int) (z6 : Int) :
    f89.p0_r L N (fun a0 => (k a0).bind j) z5 z6 = (f89.p0_r L N k z5 z6).bind j := by
  unfold f89.p0_r
  exact f89.p0_r'_nat ..
theorem f89.b'_nat {R R' : Type} (j : R → Option R') (L N : Nat) (k : Int → Option R) (w0 : (List (List Move)) → Int → Int → Option R) (x0 : (List (List Move))) (x1 : Int) :
    f89.b' L N (fun a0 => (k a0).bind j) (fun a0 a1 a2 => (w0 a0 a1 a2).bind j) x0 x1 = (f89.b' L N k w0 x0 x1).bind j := by
  unfold f89.b'
  repeat' (first | (with_reducible refine cond_nat ?_ ?_) | (with_reducible refine bind_nat fun _ => ?_) | rfl)
theorem f89.b_nat {R R' : Type} (j : R → Option R') (L N : Nat) (k : Int → Option R) (x0 : (List (List Move))) (x1 : Int) :
    f89.b L N (fun a0 => (k a0).bind j) x0 x1 = (f89.b L N k x0 x1).bind j := by
  unfold f89.b
  simp only [f89.l0_nat, f89.p0_e0_nat, f89.p0_r_nat]
  exact f89.b'_nat ..
theorem f89.ok (L N : Nat) (hΦ : TellsOk Try.prog ((Φ125 L N))) : EntOk Try.prog 89 (f89.ent L N) := by
  intro args vw site h
  unfold f89.ent
  split
  · rename_i d ha
    intro y hy hs
    refine call_ro (dep := 1000) (E := (E89 L N)) (rs := (.one i64)) (v := (.tv i64 y)) (sound_of hΦ) okP (callI_sound (sound_of hΦ) okP 1 2000) (f := Try.f89) rfl hs ha ?_ rfl site
    refine (f89.b_eq L N some d.1 d.2.1).trans ?_
    refine ((f89.b_nat (fun y => (some (.tv i64 y) : Option AV)) L N some d.1 d.2.1)).trans ?_
    rw [show f89.b L N some d.1 d.2.1 = some y from hy]
    rfl
  · intro y hy
    cases hy
def Φ89 (L N : Nat) : Tells := (addT (Φ125 L N) 89 (f89.ent L N))
theorem Φ89_ok (L N : Nat) : TellsOk Try.prog (Φ89 L N) := addT_ok (Φ125_ok L N) (f89.ok L N (Φ125_ok L N))
def f48.b' {R : Type} (L N : Nat) (k : Int → Option R) (x0 : Graph) (x1 : Int) : Option R :=
  (f89 L N x0.moves x1).bind fun y0 =>
  bif (decide (y0 < (0 : Int))) then
    k (-1 : Int)
  else k y0
def f48.b {R : Type} (L N : Nat) (k : Int → Option R) (x0 : Graph) (x1 : Int) : Option R :=
  f48.b' L N k x0 x1
def f48 (L N : Nat) (x0 : Graph) (x1 : Int) : Option (Int) := f48.b L N some x0 x1
def f48.ent (L N : Nat) (args : List AV) (vw : View) (site : Nat) : Ans := match roD [(.st 2), i64] vw args with
  | some d => ⟨Int, f48 L N d.1 d.2.1, fun y => ((.tv i64 y), [], [])⟩
  | none => Ans.no
noncomputable def E48 (L N : Nat) : Env := { P := Try.prog, ty := tyOf, Φ := (Φ89 L N), inl := inlT, live := lives, liveX := livesX, L := L, dp := none, prom := promT, heal := healT, ren := renT }
theorem f48.b_pre {R : Type} (L N : Nat) (κ : AV → Option R) (x0 : Graph) (x1 : Int) :
    evBody (E48 L N) (evCallI (E48 L N) 1 2000) 1000 48 Try.f48 [(.tv (.st 2) x0), (.tv i64 x1)] [] [] (finC (.one i64) κ)
    = f48.b' L N (fun a0 => κ (.tv i64 a0)) x0 x1 := by kernel_rfl
theorem f48.b_eq {R : Type} (L N : Nat) (κ : AV → Option R) (x0 : Graph) (x1 : Int) :
    evBody (E48 L N) (evCallI (E48 L N) 1 2000) 1000 48 Try.f48 [(.tv (.st 2) x0), (.tv i64 x1)] [] [] (finC (.one i64) κ)
    = f48.b L N (fun a0 => κ (.tv i64 a0)) x0 x1 := by
  rw [f48.b_pre]
  unfold f48.b
  rfl
theorem f48.b'_nat {R R' : Type} (j : R → Option R') (L N : Nat) (k : Int → Option R) (x0 : Graph) (x1 : Int) :
    f48.b' L N (fun a0 => (k a0).bind j) x0 x1 = (f48.b' L N k x0 x1).bind j := by
  unfold f48.b'
  repeat' (first | (with_reducible refine cond_nat ?_ ?_) | (with_reducible refine bind_nat fun _ => ?_) | rfl)
theorem f48.b_nat {R R' : Type} (j : R → Option R') (L N : Nat) (k : Int → Option R) (x0 : Graph) (x1 : Int) :
    f48.b L N (fun a0 => (k a0).bind j) x0 x1 = (f48.b L N k x0 x1).bind j := by
  unfold f48.b
  exact f48.b'_nat ..
theorem f48.ok (L N : Nat) (hΦ : TellsOk Try.prog ((Φ89 L N))) : EntOk Try.prog 48 (f48.ent L N) := by
  intro args vw site h
  unfold f48.ent
  split
  · rename_i d ha
    intro y hy hs
    refine call_ro (dep := 1000) (E := (E48 L N)) (rs := (.one i64)) (v := (.tv i64 y)) (sound_of hΦ) okP (callI_sound (sound_of hΦ) okP 1 2000) (f := Try.f48) rfl hs ha ?_ rfl site
    refine (f48.b_eq L N some d.1 d.2.1).trans ?_
    refine ((f48.b_nat (fun y => (some (.tv i64 y) : Option AV)) L N some d.1 d.2.1)).trans ?_
    rw [show f48.b L N some d.1 d.2.1 = some y from hy]
    rfl
  · intro y hy
    cases hy
def Φ48 (L N : Nat) : Tells := (addT (Φ89 L N) 48 (f48.ent L N))
theorem Φ48_ok (L N : Nat) : TellsOk Try.prog (Φ48 L N) := addT_ok (Φ89_ok L N) (f48.ok L N (Φ89_ok L N))
def f102.s0' {R : Type} (L N : Nat) (n0 : Nat) (k0_e0 : Int → (List Move) → Option R) (rec0 : Int → Int → (List Move) → Option R) (s0 : Int) (s1 : Int) (s2 : (List Move)) : Option R :=
  bif (decide (s1 < (s2.length : Int))) then
    bif (decide (0 ≤ s1) && decide (s1 < (s2.length : Int))) then
      bif (decide (0 ≤ s1) && decide (s1 < ((s2.set s1.toNat (Move.mk s0 ((listAt s2 (Ty.dflt (.st 0)) s1.toNat).to))).length : Int))) then
        rec0 (wi ((wi (s0 + (1 : Int))) + (1 : Int))) (wi (s1 + (1 : Int))) ((s2.set s1.toNat (Move.mk s0 ((listAt s2 (Ty.dflt (.st 0)) s1.toNat).to))).set s1.toNat (Move.mk ((listAt (s2.set s1.toNat (Move.mk s0 ((listAt s2 (Ty.dflt (.st 0)) s1.toNat).to))) (Ty.dflt (.st 0)) s1.toNat).act) (wi (s0 + (1 : Int)))))
      else none
    else none
  else k0_e0 s0 s2
def f102.s0 {R : Type} (L N : Nat) (n0 : Nat) (k0_e0 : Int → (List Move) → Option R) (rec0 : Int → Int → (List Move) → Option R) (s0 : Int) (s1 : Int) (s2 : (List Move)) : Option R :=
  f102.s0' L N n0 k0_e0 rec0 s0 s1 s2
def f102.l0 {R : Type} (L N : Nat) (n0 : Nat) (k0_e0 : Int → (List Move) → Option R) : Nat → Int → Int → (List Move) → Option R
  | 0, _, _, _ => none
  | n + 1, s0, s1, s2 => f102.s0 L N n0 k0_e0 (f102.l0 L N n0 k0_e0 n) s0 s1 s2
def f102.T0 (s0 : Int) (s1 : Int) (s2 : (List Move)) : T := mkT 27 [(0, (.row 0)), (1, (.tv i64 s0)), (5, (.tv i64 s1))] ++ [.row 0]
def f102.H0 (s0 : Int) (s1 : Int) (s2 : (List Move)) : H := [(0, (.row 53 (.st 0) s2))]
def f102.T0_e0 (z3 : Int) (z4 : (List Move)) : T := mkT 27 [(1, (.tv i64 z3))] ++ [.row 0]
def f102.H0_e0 (z3 : Int) (z4 : (List Move)) : H := [(0, (.row 53 (.st 0) z4))]
def f102.p0_e0' {R : Type} (L N : Nat) (n0 : Nat) (k : Int → (List Move) → Option R) (z3 : Int) (z4 : (List Move)) : Option R :=
  bif (Nat.beq z4.length n0) then
    k z3 z4
  else none
def f102.p0_e0 {R : Type} (L N : Nat) (n0 : Nat) (k : Int → (List Move) → Option R) (z3 : Int) (z4 : (List Move)) : Option R :=
  f102.p0_e0' L N n0 k z3 z4
def f102.b' {R : Type} (L N : Nat) (n0 : Nat) (k : Int → (List Move) → Option R) (w0 : Int → Int → (List Move) → Option R) (oo : List Move) (x0 : Int) : Option R :=
  w0 x0 (0 : Int) oo
def f102.b {R : Type} (L N : Nat) (n0 : Nat) (k : Int → (List Move) → Option R) (oo : List Move) (x0 : Int) : Option R :=
  f102.b' L N n0 k (fun s0 s1 s2 => f102.l0 L N n0 (fun z3 z4 => f102.p0_e0 L N n0 k z3 z4) L s0 s1 s2) oo x0
def f102 (L N : Nat) (oo : List Move) (x0 : Int) : Option (Int × (List Move)) := f102.b L N oo.length (fun a0 a1 => some (a0, a1)) oo x0
def f102.ent (L N : Nat) (args : List AV) (vw : View) (site : Nat) : Ans := match ownD none 53 (.st 0) [i64] vw args with
  | some (o, xs, d, u) => ⟨Int × (List Move), f102 L N xs d.1, fun y => ((.tv i64 y.1), u ++ [(o, some (mkO none 53 (.st 0) y.2))], [])⟩
  | none => Ans.no
noncomputable def E102 (L N : Nat) : Env := { P := Try.prog, ty := tyOf, Φ := (Φ48 L N), inl := inlT, live := lives, liveX := livesX, L := L, dp := none, prom := promT, heal := healT, ren := renT }
noncomputable def f102.c0 : Code := loopAt 0 (codeOf Try.f102)
theorem f102.s0_pre {R : Type} (L N n0 : Nat) (κ : Ex → T → H → Option R) (rec : T → H → Option R) (s0 : Int) (s1 : Int) (s2 : (List Move)) :
    evRd (E102 L N) (evCallI (E102 L N) 1 2000) 1000 102 27 0 f102.c0 κ rec (f102.T0 s0 s1 s2) (f102.H0 s0 s1 s2)
    = f102.s0' L N n0 (fun z3 z4 => κ (.exit 0) (f102.T0_e0 z3 z4) (f102.H0_e0 z3 z4)) (fun s0 s1 s2 => rec (f102.T0 s0 s1 s2) (f102.H0 s0 s1 s2)) s0 s1 s2 := by kernel_rfl
theorem f102.s0_eq {R : Type} (L N n0 : Nat) (κ : Ex → T → H → Option R) (rec : T → H → Option R) (s0 : Int) (s1 : Int) (s2 : (List Move)) :
    evRd (E102 L N) (evCallI (E102 L N) 1 2000) 1000 102 27 0 f102.c0 κ rec (f102.T0 s0 s1 s2) (f102.H0 s0 s1 s2)
    = f102.s0 L N n0 (fun z3 z4 => κ (.exit 0) (f102.T0_e0 z3 z4) (f102.H0_e0 z3 z4)) (fun s0 s1 s2 => rec (f102.T0 s0 s1 s2) (f102.H0 s0 s1 s2)) s0 s1 s2 := by
  rw [f102.s0_pre L N n0]
  unfold f102.s0
  rfl
theorem f102.l0_eq {R : Type} (L N n0 : Nat) (κ : Ex → T → H → Option R) : ∀ (n : Nat) (s0 : Int) (s1 : Int) (s2 : (List Move)),
    evLp (E102 L N) (evCallI (E102 L N) 1 2000) 1000 102 27 0 f102.c0 κ n (f102.T0 s0 s1 s2) (f102.H0 s0 s1 s2)
    = f102.l0 L N n0 (fun z3 z4 => κ (.exit 0) (f102.T0_e0 z3 z4) (f102.H0_e0 z3 z4)) n s0 s1 s2 := by
  intro n
  induction n with
  | zero => intros; rfl
  | succ n ih =>
    intro s0 s1 s2
    rw [evLp_succ, f102.s0_eq L N n0]
    simp only [ih]
    rfl
theorem f102.p0_e0_pre {R : Type} (L N n0 : Nat) (κ : AV → List Move → Option R) (z3 : Int) (z4 : (List Move)) :
    (contAt (E102 L N) (evCallI (E102 L N) 1 2000) 1000 102 27 0 (codeOf Try.f102) (finK (E102 L N) 1000 Try.f102 (finO (.one i64) none 53 (.st 0) n0 κ))) (.exit 0) (f102.T0_e0 z3 z4) (f102.H0_e0 z3 z4)
    = f102.p0_e0' L N n0 (fun a0 a1 => κ (.tv i64 a0) a1) z3 z4 := by kernel_rfl
theorem f102.p0_e0_eq {R : Type} (L N n0 : Nat) (κ : AV → List Move → Option R) (z3 : Int) (z4 : (List Move)) :
    (contAt (E102 L N) (evCallI (E102 L N) 1 2000) 1000 102 27 0 (codeOf Try.f102) (finK (E102 L N) 1000 Try.f102 (finO (.one i64) none 53 (.st 0) n0 κ))) (.exit 0) (f102.T0_e0 z3 z4) (f102.H0_e0 z3 z4)
    = f102.p0_e0 L N n0 (fun a0 a1 => κ (.tv i64 a0) a1) z3 z4 := by
  rw [f102.p0_e0_pre L N n0]
  unfold f102.p0_e0
  rfl
theorem f102.b_pre {R : Type} (L N n0 : Nat) (κ : AV → List Move → Option R) (oo : List Move) (x0 : Int) :
    evBody (E102 L N) (evCallI (E102 L N) 1 2000) 1000 102 Try.f102 [(.row 0), (.tv i64 x0)] [.row 0] [(0, (.row 53 (.st 0) oo))] (finO (.one i64) none 53 (.st 0) n0 κ)
    = f102.b' L N n0 (fun a0 a1 => κ (.tv i64 a0) a1) (fun s0 s1 s2 => evLp (E102 L N) (evCallI (E102 L N) 1 2000) 1000 102 27 0 f102.c0 (contAt (E102 L N) (evCallI (E102 L N) 1 2000) 1000 102 27 0 (codeOf Try.f102) (finK (E102 L N) 1000 Try.f102 (finO (.one i64) none 53 (.st 0) n0 κ))) L (f102.T0 s0 s1 s2) (f102.H0 s0 s1 s2)) oo x0 := by kernel_rfl
theorem f102.b_eq {R : Type} (L N n0 : Nat) (κ : AV → List Move → Option R) (oo : List Move) (x0 : Int) :
    evBody (E102 L N) (evCallI (E102 L N) 1 2000) 1000 102 Try.f102 [(.row 0), (.tv i64 x0)] [.row 0] [(0, (.row 53 (.st 0) oo))] (finO (.one i64) none 53 (.st 0) n0 κ)
    = f102.b L N n0 (fun a0 a1 => κ (.tv i64 a0) a1) oo x0 := by
  rw [f102.b_pre L N n0]
  unfold f102.b
  simp only [f102.l0_eq L N n0, f102.p0_e0_eq L N n0]
theorem f102.s0'_nat {R R' : Type} (j : R → Option R') (L N : Nat) (n0 : Nat) (k0_e0 : Int → (List Move) → Option R) (rec0 : Int → Int → (List Move) → Option R) (s0 : Int) (s1 : Int) (s2 : (List Move)) :
    f102.s0' L N n0 (fun a0 a1 => (k0_e0 a0 a1).bind j) (fun a0 a1 a2 => (rec0 a0 a1 a2).bind j) s0 s1 s2 = (f102.s0' L N n0 k0_e0 rec0 s0 s1 s2).bind j := by
  unfold f102.s0'
  repeat' (first | (with_reducible refine cond_nat ?_ ?_) | (with_reducible refine bind_nat fun _ => ?_) | rfl)
theorem f102.s0_nat {R R' : Type} (j : R → Option R') (L N : Nat) (n0 : Nat) (k0_e0 : Int → (List Move) → Option R) (rec0 : Int → Int → (List Move) → Option R) (s0 : Int) (s1 : Int) (s2 : (List Move)) :
    f102.s0 L N n0 (fun a0 a1 => (k0_e0 a0 a1).bind j) (fun a0 a1 a2 => (rec0 a0 a1 a2).bind j) s0 s1 s2 = (f102.s0 L N n0 k0_e0 rec0 s0 s1 s2).bind j := by
  unfold f102.s0
  exact f102.s0'_nat ..
theorem f102.l0_nat {R R' : Type} (j : R → Option R') (L N : Nat) (n0 : Nat) (k0_e0 : Int → (List Move) → Option R) : ∀ (n : Nat) (s0 : Int) (s1 : Int) (s2 : (List Move)),
    f102.l0 L N n0 (fun a0 a1 => (k0_e0 a0 a1).bind j) n s0 s1 s2 = (f102.l0 L N n0 k0_e0 n s0 s1 s2).bind j := by
  intro n
  induction n with
  | zero => intros; rfl
  | succ n ih =>
    intro s0 s1 s2
    show f102.s0 L N n0 (fun a0 a1 => (k0_e0 a0 a1).bind j) (f102.l0 L N n0 (fun a0 a1 => (k0_e0 a0 a1).bind j) n) s0 s1 s2 = _
    rw [show f102.l0 L N n0 (fun a0 a1 => (k0_e0 a0 a1).bind j) n = (fun s0 s1 s2 => (f102.l0 L N n0 k0_e0 n s0 s1 s2).bind j) from funext fun s0 => funext fun s1 => funext fun s2 => ih s0 s1 s2]
    exact f102.s0_nat ..
theorem f102.p0_e0'_nat {R R' : Type} (j : R → Option R') (L N : Nat) (n0 : Nat) (k : Int → (List Move) → Option R) (z3 : Int) (z4 : (List Move)) :
    f102.p0_e0' L N n0 (fun a0 a1 => (k a0 a1).bind j) z3 z4 = (f102.p0_e0' L N n0 k z3 z4).bind j := by
  unfold f102.p0_e0'
  repeat' (first | (with_reducible refine cond_nat ?_ ?_) | (with_reducible refine bind_nat fun _ => ?_) | rfl)
theorem f102.p0_e0_nat {R R' : Type} (j : R → Option R') (L N : Nat) (n0 : Nat) (k : Int → (List Move) → Option R) (z3 : Int) (z4 : (List Move)) :
    f102.p0_e0 L N n0 (fun a0 a1 => (k a0 a1).bind j) z3 z4 = (f102.p0_e0 L N n0 k z3 z4).bind j := by
  unfold f102.p0_e0
  exact f102.p0_e0'_nat ..
theorem f102.b'_nat {R R' : Type} (j : R → Option R') (L N : Nat) (n0 : Nat) (k : Int → (List Move) → Option R) (w0 : Int → Int → (List Move) → Option R) (oo : List Move) (x0 : Int) :
    f102.b' L N n0 (fun a0 a1 => (k a0 a1).bind j) (fun a0 a1 a2 => (w0 a0 a1 a2).bind j) oo x0 = (f102.b' L N n0 k w0 oo x0).bind j := by
  unfold f102.b'
  repeat' (first | (with_reducible refine cond_nat ?_ ?_) | (with_reducible refine bind_nat fun _ => ?_) | rfl)
theorem f102.b_nat {R R' : Type} (j : R → Option R') (L N : Nat) (n0 : Nat) (k : Int → (List Move) → Option R) (oo : List Move) (x0 : Int) :
    f102.b L N n0 (fun a0 a1 => (k a0 a1).bind j) oo x0 = (f102.b L N n0 k oo x0).bind j := by
  unfold f102.b
  simp only [f102.l0_nat, f102.p0_e0_nat]
  exact f102.b'_nat ..
theorem f102.ok (L N : Nat) (hΦ : TellsOk Try.prog ((Φ48 L N))) : EntOk Try.prog 102 (f102.ent L N) := by
  intro args vw site h
  unfold f102.ent
  split
  · rename_i o xs d u ha
    intro y hy hs
    obtain ⟨rest, rfl, ho, hr, hu⟩ := ownD_some ha
    refine call_own (dep := 1000) (E := (E102 L N)) (tr := [i64]) (q := none) (el := 53) (ty := (.st 0)) (rs := (.one i64)) (v' := (.tv i64 y.1)) (ys := y.2) (sound_of hΦ) okP (callI_sound (sound_of hΦ) okP 1 2000) (f := Try.f102) rfl hs ho hr hu ?_ site
    refine (f102.b_eq L N xs.length (fun v d => some (v, d)) xs d.1).trans ?_
    refine ((f102.b_nat (fun y => (some ((.tv i64 y.1), y.2) : Option (AV × List Move))) L N xs.length (fun a0 a1 => some (a0, a1)) xs d.1)).trans ?_
    rw [show f102.b L N xs.length (fun a0 a1 => some (a0, a1)) xs d.1 = some y from hy]
    rfl
  · intro y hy
    cases hy
def Φ102 (L N : Nat) : Tells := (addT (Φ48 L N) 102 (f102.ent L N))
theorem Φ102_ok (L N : Nat) : TellsOk Try.prog (Φ102 L N) := addT_ok (Φ48_ok L N) (f102.ok L N (Φ48_ok L N))
def f66.s0' {R : Type} (L N : Nat) (n0 : Nat) (k0_e0 : Int → (List (List Move)) → Option R) (rec0 : Int → Int → (List (List Move)) → Option R) (s0 : Int) (s1 : Int) (s2 : (List (List Move))) : Option R :=
  bif (decide (s1 < (s2.length : Int))) then
    bif (decide (0 ≤ s1) && decide (s1 < (s2.length : Int))) then
      (f102 L N (listAt s2 [] s1.toNat) s0).bind fun y5 =>
      rec0 y5.1 (wi (s1 + (1 : Int))) (s2.set s1.toNat y5.2)
    else none
  else k0_e0 s0 s2
def f66.s0 {R : Type} (L N : Nat) (n0 : Nat) (k0_e0 : Int → (List (List Move)) → Option R) (rec0 : Int → Int → (List (List Move)) → Option R) (s0 : Int) (s1 : Int) (s2 : (List (List Move))) : Option R :=
  f66.s0' L N n0 k0_e0 rec0 s0 s1 s2
def f66.l0 {R : Type} (L N : Nat) (n0 : Nat) (k0_e0 : Int → (List (List Move)) → Option R) : Nat → Int → Int → (List (List Move)) → Option R
  | 0, _, _, _ => none
  | n + 1, s0, s1, s2 => f66.s0 L N n0 k0_e0 (f66.l0 L N n0 k0_e0 n) s0 s1 s2
def f66.T0 (s0 : Int) (s1 : Int) (s2 : (List (List Move))) : T := mkT 19 [(0, (.row 0)), (1, (.tv i64 s0)), (5, (.tv i64 s1))] ++ [.row 0]
def f66.H0 (s0 : Int) (s1 : Int) (s2 : (List (List Move))) : H := [(0, (.deep 0 (.sl (.st 0)) s2 none))]
def f66.T0_e0 (z3 : Int) (z4 : (List (List Move))) : T := mkT 19 [(1, (.tv i64 z3))] ++ [.row 0]
def f66.H0_e0 (z3 : Int) (z4 : (List (List Move))) : H := [(0, (.deep 0 (.sl (.st 0)) z4 none))]
def f66.p0_e0' {R : Type} (L N : Nat) (n0 : Nat) (k : Int → (List (List Move)) → Option R) (z3 : Int) (z4 : (List (List Move))) : Option R :=
  bif (Nat.beq z4.length n0) then
    k z3 z4
  else none
def f66.p0_e0 {R : Type} (L N : Nat) (n0 : Nat) (k : Int → (List (List Move)) → Option R) (z3 : Int) (z4 : (List (List Move))) : Option R :=
  f66.p0_e0' L N n0 k z3 z4
def f66.b' {R : Type} (L N : Nat) (n0 : Nat) (k : Int → (List (List Move)) → Option R) (w0 : Int → Int → (List (List Move)) → Option R) (oo : List (List Move)) (x0 : Int) : Option R :=
  w0 x0 (0 : Int) oo
def f66.b {R : Type} (L N : Nat) (n0 : Nat) (k : Int → (List (List Move)) → Option R) (oo : List (List Move)) (x0 : Int) : Option R :=
  f66.b' L N n0 k (fun s0 s1 s2 => f66.l0 L N n0 (fun z3 z4 => f66.p0_e0 L N n0 k z3 z4) L s0 s1 s2) oo x0
def f66 (L N : Nat) (oo : List (List Move)) (x0 : Int) : Option (Int × (List (List Move))) := f66.b L N oo.length (fun a0 a1 => some (a0, a1)) oo x0
def f66.ent (L N : Nat) (args : List AV) (vw : View) (site : Nat) : Ans := match ownD (some 0) 51 (.sl (.st 0)) [i64] vw args with
  | some (o, xs, d, u) => ⟨Int × (List (List Move)), f66 L N xs d.1, fun y => ((.tv i64 y.1), u ++ [(o, some (mkO (some 0) 51 (.sl (.st 0)) y.2))], [])⟩
  | none => Ans.no
noncomputable def E66 (L N : Nat) : Env := { P := Try.prog, ty := tyOf, Φ := (Φ102 L N), inl := inlT, live := lives, liveX := livesX, L := L, dp := none, prom := promT, heal := healT, ren := renT }
noncomputable def f66.c0 : Code := loopAt 0 (codeOf Try.f66)
theorem f66.s0_pre {R : Type} (L N n0 : Nat) (κ : Ex → T → H → Option R) (rec : T → H → Option R) (s0 : Int) (s1 : Int) (s2 : (List (List Move))) :
    evRd (E66 L N) (evCallI (E66 L N) 1 2000) 1000 66 19 0 f66.c0 κ rec (f66.T0 s0 s1 s2) (f66.H0 s0 s1 s2)
    = f66.s0' L N n0 (fun z3 z4 => κ (.exit 0) (f66.T0_e0 z3 z4) (f66.H0_e0 z3 z4)) (fun s0 s1 s2 => rec (f66.T0 s0 s1 s2) (f66.H0 s0 s1 s2)) s0 s1 s2 := by kernel_rfl
theorem f66.s0_eq {R : Type} (L N n0 : Nat) (κ : Ex → T → H → Option R) (rec : T → H → Option R) (s0 : Int) (s1 : Int) (s2 : (List (List Move))) :
    evRd (E66 L N) (evCallI (E66 L N) 1 2000) 1000 66 19 0 f66.c0 κ rec (f66.T0 s0 s1 s2) (f66.H0 s0 s1 s2)
    = f66.s0 L N n0 (fun z3 z4 => κ (.exit 0) (f66.T0_e0 z3 z4) (f66.H0_e0 z3 z4)) (fun s0 s1 s2 => rec (f66.T0 s0 s1 s2) (f66.H0 s0 s1 s2)) s0 s1 s2 := by
  rw [f66.s0_pre L N n0]
  unfold f66.s0
  rfl
theorem f66.l0_eq {R : Type} (L N n0 : Nat) (κ : Ex → T → H → Option R) : ∀ (n : Nat) (s0 : Int) (s1 : Int) (s2 : (List (List Move))),
    evLp (E66 L N) (evCallI (E66 L N) 1 2000) 1000 66 19 0 f66.c0 κ n (f66.T0 s0 s1 s2) (f66.H0 s0 s1 s2)
    = f66.l0 L N n0 (fun z3 z4 => κ (.exit 0) (f66.T0_e0 z3 z4) (f66.H0_e0 z3 z4)) n s0 s1 s2 := by
  intro n
  induction n with
  | zero => intros; rfl
  | succ n ih =>
    intro s0 s1 s2
    rw [evLp_succ, f66.s0_eq L N n0]
    simp only [ih]
    rfl
theorem f66.p0_e0_pre {R : Type} (L N n0 : Nat) (κ : AV → List (List Move) → Option R) (z3 : Int) (z4 : (List (List Move))) :
    (contAt (E66 L N) (evCallI (E66 L N) 1 2000) 1000 66 19 0 (codeOf Try.f66) (finK (E66 L N) 1000 Try.f66 (finO (.one i64) (some 0) 51 (.sl (.st 0)) n0 κ))) (.exit 0) (f66.T0_e0 z3 z4) (f66.H0_e0 z3 z4)
    = f66.p0_e0' L N n0 (fun a0 a1 => κ (.tv i64 a0) a1) z3 z4 := by kernel_rfl
theorem f66.p0_e0_eq {R : Type} (L N n0 : Nat) (κ : AV → List (List Move) → Option R) (z3 : Int) (z4 : (List (List Move))) :
    (contAt (E66 L N) (evCallI (E66 L N) 1 2000) 1000 66 19 0 (codeOf Try.f66) (finK (E66 L N) 1000 Try.f66 (finO (.one i64) (some 0) 51 (.sl (.st 0)) n0 κ))) (.exit 0) (f66.T0_e0 z3 z4) (f66.H0_e0 z3 z4)
    = f66.p0_e0 L N n0 (fun a0 a1 => κ (.tv i64 a0) a1) z3 z4 := by
  rw [f66.p0_e0_pre L N n0]
  unfold f66.p0_e0
  rfl
theorem f66.b_pre {R : Type} (L N n0 : Nat) (κ : AV → List (List Move) → Option R) (oo : List (List Move)) (x0 : Int) :
    evBody (E66 L N) (evCallI (E66 L N) 1 2000) 1000 66 Try.f66 [(.row 0), (.tv i64 x0)] [.row 0] [(0, (.deep 0 (.sl (.st 0)) oo none))] (finO (.one i64) (some 0) 51 (.sl (.st 0)) n0 κ)
    = f66.b' L N n0 (fun a0 a1 => κ (.tv i64 a0) a1) (fun s0 s1 s2 => evLp (E66 L N) (evCallI (E66 L N) 1 2000) 1000 66 19 0 f66.c0 (contAt (E66 L N) (evCallI (E66 L N) 1 2000) 1000 66 19 0 (codeOf Try.f66) (finK (E66 L N) 1000 Try.f66 (finO (.one i64) (some 0) 51 (.sl (.st 0)) n0 κ))) L (f66.T0 s0 s1 s2) (f66.H0 s0 s1 s2)) oo x0 := by kernel_rfl
theorem f66.b_eq {R : Type} (L N n0 : Nat) (κ : AV → List (List Move) → Option R) (oo : List (List Move)) (x0 : Int) :
    evBody (E66 L N) (evCallI (E66 L N) 1 2000) 1000 66 Try.f66 [(.row 0), (.tv i64 x0)] [.row 0] [(0, (.deep 0 (.sl (.st 0)) oo none))] (finO (.one i64) (some 0) 51 (.sl (.st 0)) n0 κ)
    = f66.b L N n0 (fun a0 a1 => κ (.tv i64 a0) a1) oo x0 := by
  rw [f66.b_pre L N n0]
  unfold f66.b
  simp only [f66.l0_eq L N n0, f66.p0_e0_eq L N n0]
theorem f66.s0'_nat {R R' : Type} (j : R → Option R') (L N : Nat) (n0 : Nat) (k0_e0 : Int → (List (List Move)) → Option R) (rec0 : Int → Int → (List (List Move)) → Option R) (s0 : Int) (s1 : Int) (s2 : (List (List Move))) :
    f66.s0' L N n0 (fun a0 a1 => (k0_e0 a0 a1).bind j) (fun a0 a1 a2 => (rec0 a0 a1 a2).bind j) s0 s1 s2 = (f66.s0' L N n0 k0_e0 rec0 s0 s1 s2).bind j := by
  unfold f66.s0'
  repeat' (first | (with_reducible refine cond_nat ?_ ?_) | (with_reducible refine bind_nat fun _ => ?_) | rfl)
theorem f66.s0_nat {R R' : Type} (j : R → Option R') (L N : Nat) (n0 : Nat) (k0_e0 : Int → (List (List Move)) → Option R) (rec0 : Int → Int → (List (List Move)) → Option R) (s0 : Int) (s1 : Int) (s2 : (List (List Move))) :
    f66.s0 L N n0 (fun a0 a1 => (k0_e0 a0 a1).bind j) (fun a0 a1 a2 => (rec0 a0 a1 a2).bind j) s0 s1 s2 = (f66.s0 L N n0 k0_e0 rec0 s0 s1 s2).bind j := by
  unfold f66.s0
  exact f66.s0'_nat ..
theorem f66.l0_nat {R R' : Type} (j : R → Option R') (L N : Nat) (n0 : Nat) (k0_e0 : Int → (List (List Move)) → Option R) : ∀ (n : Nat) (s0 : Int) (s1 : Int) (s2 : (List (List Move))),
    f66.l0 L N n0 (fun a0 a1 => (k0_e0 a0 a1).bind j) n s0 s1 s2 = (f66.l0 L N n0 k0_e0 n s0 s1 s2).bind j := by
  intro n
  induction n with
  | zero => intros; rfl
  | succ n ih =>
    intro s0 s1 s2
    show f66.s0 L N n0 (fun a0 a1 => (k0_e0 a0 a1).bind j) (f66.l0 L N n0 (fun a0 a1 => (k0_e0 a0 a1).bind j) n) s0 s1 s2 = _
    rw [show f66.l0 L N n0 (fun a0 a1 => (k0_e0 a0 a1).bind j) n = (fun s0 s1 s2 => (f66.l0 L N n0 k0_e0 n s0 s1 s2).bind j) from funext fun s0 => funext fun s1 => funext fun s2 => ih s0 s1 s2]
    exact f66.s0_nat ..
theorem f66.p0_e0'_nat {R R' : Type} (j : R → Option R') (L N : Nat) (n0 : Nat) (k : Int → (List (List Move)) → Option R) (z3 : Int) (z4 : (List (List Move))) :
    f66.p0_e0' L N n0 (fun a0 a1 => (k a0 a1).bind j) z3 z4 = (f66.p0_e0' L N n0 k z3 z4).bind j := by
  unfold f66.p0_e0'
  repeat' (first | (with_reducible refine cond_nat ?_ ?_) | (with_reducible refine bind_nat fun _ => ?_) | rfl)
theorem f66.p0_e0_nat {R R' : Type} (j : R → Option R') (L N : Nat) (n0 : Nat) (k : Int → (List (List Move)) → Option R) (z3 : Int) (z4 : (List (List Move))) :
    f66.p0_e0 L N n0 (fun a0 a1 => (k a0 a1).bind j) z3 z4 = (f66.p0_e0 L N n0 k z3 z4).bind j := by
  unfold f66.p0_e0
  exact f66.p0_e0'_nat ..
theorem f66.b'_nat {R R' : Type} (j : R → Option R') (L N : Nat) (n0 : Nat) (k : Int → (List (List Move)) → Option R) (w0 : Int → Int → (List (List Move)) → Option R) (oo : List (List Move)) (x0 : Int) :
    f66.b' L N n0 (fun a0 a1 => (k a0 a1).bind j) (fun a0 a1 a2 => (w0 a0 a1 a2).bind j) oo x0 = (f66.b' L N n0 k w0 oo x0).bind j := by
  unfold f66.b'
  repeat' (first | (with_reducible refine cond_nat ?_ ?_) | (with_reducible refine bind_nat fun _ => ?_) | rfl)
theorem f66.b_nat {R R' : Type} (j : R → Option R') (L N : Nat) (n0 : Nat) (k : Int → (List (List Move)) → Option R) (oo : List (List Move)) (x0 : Int) :
    f66.b L N n0 (fun a0 a1 => (k a0 a1).bind j) oo x0 = (f66.b L N n0 k oo x0).bind j := by
  unfold f66.b
  simp only [f66.l0_nat, f66.p0_e0_nat]
  exact f66.b'_nat ..
theorem f66.ok (L N : Nat) (hΦ : TellsOk Try.prog ((Φ102 L N))) : EntOk Try.prog 66 (f66.ent L N) := by
  intro args vw site h
  unfold f66.ent
  split
  · rename_i o xs d u ha
    intro y hy hs
    obtain ⟨rest, rfl, ho, hr, hu⟩ := ownD_some ha
    refine call_own (dep := 1000) (E := (E66 L N)) (tr := [i64]) (q := (some 0)) (el := 51) (ty := (.sl (.st 0))) (rs := (.one i64)) (v' := (.tv i64 y.1)) (ys := y.2) (sound_of hΦ) okP (callI_sound (sound_of hΦ) okP 1 2000) (f := Try.f66) rfl hs ho hr hu ?_ site
    refine (f66.b_eq L N xs.length (fun v d => some (v, d)) xs d.1).trans ?_
    refine ((f66.b_nat (fun y => (some ((.tv i64 y.1), y.2) : Option (AV × List (List Move)))) L N xs.length (fun a0 a1 => some (a0, a1)) xs d.1)).trans ?_
    rw [show f66.b L N xs.length (fun a0 a1 => some (a0, a1)) xs d.1 = some y from hy]
    rfl
  · intro y hy
    cases hy
def Φ66 (L N : Nat) : Tells := (addT (Φ102 L N) 66 (f66.ent L N))
theorem Φ66_ok (L N : Nat) : TellsOk Try.prog (Φ66 L N) := addT_ok (Φ102_ok L N) (f66.ok L N (Φ102_ok L N))
def f10.j0' {R : Type} (L N : Nat) (k : Bool → Option R) (v40 : Int) (v41 : (List (List Move))) : Option R :=
  (f48 L N (Graph.mk v41) (1 : Int)).bind fun y42 =>
  bif (decide (y42 < (0 : Int))) then
    k false
  else bif (y42 != v40) then
    k false
  else k true
def f10.j1' {R : Type} (L N : Nat) (k : Bool → Option R) (v28 : Bool) (v29 : (List (List Move))) (v30 : (List (List Move))) (v31 : (List (List Move))) : Option R :=
  (f66 L N v31 (1 : Int)).bind fun y32 =>
  (f48 L N (Graph.mk y32.2) (1 : Int)).bind fun y33 =>
  bif (decide (y33 < (0 : Int))) then
    k false
  else bif (y33 != y32.1) then
    k false
  else (f18 L N (Graph.mk v29)).bind fun y34 =>
  (f47 L N (Graph.mk y34)).bind fun y35 =>
  (f22 L N (Graph.mk y35.1) (Graph.mk v30)).bind fun y36 =>
  bif (!y36) then
    k false
  else bif (!(y35.2 == v28)) then
    k false
  else f10.j0' L N k y32.1 y32.2
def f10.j2' {R : Type} (L N : Nat) (k : Bool → Option R) (v13 : Bool) (v14 : Bool) (v15 : (List (List Move))) (v16 : (List (List Move))) (v17 : (List (List Move))) (v18 : (List (List Move))) : Option R :=
  (f18 L N (Graph.mk v15)).bind fun y19 =>
  (f22 L N (Graph.mk v17) (Graph.mk y19)).bind fun y20 =>
  bif (!y20) then
    k false
  else (f66 L N v17 (1 : Int)).bind fun y21 =>
  bif (decide (y21.1 < (0 : Int))) then
    k false
  else (f22 L N (Graph.mk v18) (Graph.mk v16)).bind fun y22 =>
  bif (!y22) then
    k false
  else bif (!(v14 == v13)) then
    k false
  else f10.j1' L N k v13 v15 v16 v18
def f10.b' {R : Type} (L N : Nat) (k : Bool → Option R) (x0 : Graph) : Option R :=
  (f15 L N (Graph.mk x0.moves) (1048576 : Int)).bind fun y0 =>
  bif (decide (y0 < (0 : Int))) then
    k true
  else (f18 L N (Graph.mk x0.moves)).bind fun y1 =>
  (f46 L N (Graph.mk y1)).bind fun y2 =>
  (f18 L N (Graph.mk x0.moves)).bind fun y3 =>
  (f47 L N (Graph.mk y3)).bind fun y4 =>
  (f22 L N (Graph.mk y4.1) (Graph.mk y2.1.moves)).bind fun y5 =>
  bif (!y5) then
    k false
  else bif (!(y4.2 == y2.2)) then
    k false
  else f10.j2' L N k y2.2 y4.2 x0.moves y2.1.moves y3 y4.1
def f10.b {R : Type} (L N : Nat) (k : Bool → Option R) (x0 : Graph) : Option R :=
  f10.b' L N k x0
def f10 (L N : Nat) (x0 : Graph) : Option (Bool) := f10.b L N some x0
def f10.ent (L N : Nat) (args : List AV) (vw : View) (site : Nat) : Ans := match roD [(.st 2)] vw args with
  | some d => ⟨Bool, f10 L N d.1, fun y => ((.tv .bool y), [], [])⟩
  | none => Ans.no
noncomputable def E10 (L N : Nat) : Env := { P := Try.prog, ty := tyOf, Φ := (Φ66 L N), inl := inlT, live := lives, liveX := livesX, L := L, dp := none, prom := promT, heal := healT, ren := renT }
theorem f10.b_pre {R : Type} (L N : Nat) (κ : AV → Option R) (x0 : Graph) :
    evBody (E10 L N) (evCallI (E10 L N) 1 2000) 1000 10 Try.f10 [(.tv (.st 2) x0)] [] [] (finC (.one .bool) κ)
    = f10.b' L N (fun a0 => κ (.tv .bool a0)) x0 := by kernel_rfl
theorem f10.b_eq {R : Type} (L N : Nat) (κ : AV → Option R) (x0 : Graph) :
    evBody (E10 L N) (evCallI (E10 L N) 1 2000) 1000 10 Try.f10 [(.tv (.st 2) x0)] [] [] (finC (.one .bool) κ)
    = f10.b L N (fun a0 => κ (.tv .bool a0)) x0 := by
  rw [f10.b_pre]
  unfold f10.b
  rfl
theorem f10.j0'_nat {R R' : Type} (j : R → Option R') (L N : Nat) (k : Bool → Option R) (v40 : Int) (v41 : (List (List Move))) :
    f10.j0' L N (fun a0 => (k a0).bind j) v40 v41 = (f10.j0' L N k v40 v41).bind j := by
  unfold f10.j0'
  repeat' (first | (with_reducible refine cond_nat ?_ ?_) | (with_reducible refine bind_nat fun _ => ?_) | rfl)
theorem f10.j1'_nat {R R' : Type} (j : R → Option R') (L N : Nat) (k : Bool → Option R) (v28 : Bool) (v29 : (List (List Move))) (v30 : (List (List Move))) (v31 : (List (List Move))) :
    f10.j1' L N (fun a0 => (k a0).bind j) v28 v29 v30 v31 = (f10.j1' L N k v28 v29 v30 v31).bind j := by
  unfold f10.j1'
  repeat' (first | (with_reducible refine cond_nat ?_ ?_) | (with_reducible refine bind_nat fun _ => ?_) | exact f10.j0'_nat .. | rfl)
theorem f10.j2'_nat {R R' : Type} (j : R → Option R') (L N : Nat) (k : Bool → Option R) (v13 : Bool) (v14 : Bool) (v15 : (List (List Move))) (v16 : (List (List Move))) (v17 : (List (List Move))) (v18 : (List (List Move))) :
    f10.j2' L N (fun a0 => (k a0).bind j) v13 v14 v15 v16 v17 v18 = (f10.j2' L N k v13 v14 v15 v16 v17 v18).bind j := by
  unfold f10.j2'
  repeat' (first | (with_reducible refine cond_nat ?_ ?_) | (with_reducible refine bind_nat fun _ => ?_) | exact f10.j0'_nat .. | exact f10.j1'_nat .. | rfl)
theorem f10.b'_nat {R R' : Type} (j : R → Option R') (L N : Nat) (k : Bool → Option R) (x0 : Graph) :
    f10.b' L N (fun a0 => (k a0).bind j) x0 = (f10.b' L N k x0).bind j := by
  unfold f10.b'
  repeat' (first | (with_reducible refine cond_nat ?_ ?_) | (with_reducible refine bind_nat fun _ => ?_) | exact f10.j0'_nat .. | exact f10.j1'_nat .. | exact f10.j2'_nat .. | rfl)
theorem f10.b_nat {R R' : Type} (j : R → Option R') (L N : Nat) (k : Bool → Option R) (x0 : Graph) :
    f10.b L N (fun a0 => (k a0).bind j) x0 = (f10.b L N k x0).bind j := by
  unfold f10.b
  exact f10.b'_nat ..
theorem f10.ok (L N : Nat) (hΦ : TellsOk Try.prog ((Φ66 L N))) : EntOk Try.prog 10 (f10.ent L N) := by
  intro args vw site h
  unfold f10.ent
  split
  · rename_i d ha
    intro y hy hs
    refine call_ro (dep := 1000) (E := (E10 L N)) (rs := (.one .bool)) (v := (.tv .bool y)) (sound_of hΦ) okP (callI_sound (sound_of hΦ) okP 1 2000) (f := Try.f10) rfl hs ha ?_ rfl site
    refine (f10.b_eq L N some d.1).trans ?_
    refine ((f10.b_nat (fun y => (some (.tv .bool y) : Option AV)) L N some d.1)).trans ?_
    rw [show f10.b L N some d.1 = some y from hy]
    rfl
  · intro y hy
    cases hy
def Φ10 (L N : Nat) : Tells := (addT (Φ66 L N) 10 (f10.ent L N))
theorem Φ10_ok (L N : Nat) : TellsOk Try.prog (Φ10 L N) := addT_ok (Φ66_ok L N) (f10.ok L N (Φ66_ok L N))
end Go.Proofs.Ytdfjdbpklbehoaa.Ev
