/- The seat's functions as plain functions, continued: made by program (wip/gen/gen.py). -/
import Derived.Test.YtdfjdbpklbehoaaG3a
namespace Go.Proofs.Ytdfjdbpklbehoaa.Ev
open Go
set_option linter.unusedVariables false
set_option maxRecDepth 20000
theorem f32.p0_e0_eq {R : Type} (L N : Nat) (κ : AV → Option R) :
    (contAt (E32 L N) (evCallI (E32 L N) 1 2000) 1000 32 64 0 (codeOf Try.f32) (finK (E32 L N) 1000 Try.f32 (finC (.one .bool) κ))) (.exit 0) f32.T0_e0 f32.H0_e0
    = f32.p0_e0 L N (fun a0 => κ (.tv .bool a0)) := by
  rw [f32.p0_e0_pre]
  unfold f32.p0_e0
  rfl
theorem f32.p0_r_pre {R : Type} (L N : Nat) (κ : AV → Option R) (z43 : Bool) :
    (contAt (E32 L N) (evCallI (E32 L N) 1 2000) 1000 32 64 0 (codeOf Try.f32) (finK (E32 L N) 1000 Try.f32 (finC (.one .bool) κ))) .ret (f32.T0_r z43) (f32.H0_r z43)
    = f32.p0_r' L N (fun a0 => κ (.tv .bool a0)) z43 := by kernel_rfl
theorem f32.p0_r_eq {R : Type} (L N : Nat) (κ : AV → Option R) (z43 : Bool) :
    (contAt (E32 L N) (evCallI (E32 L N) 1 2000) 1000 32 64 0 (codeOf Try.f32) (finK (E32 L N) 1000 Try.f32 (finC (.one .bool) κ))) .ret (f32.T0_r z43) (f32.H0_r z43)
    = f32.p0_r L N (fun a0 => κ (.tv .bool a0)) z43 := by
  rw [f32.p0_r_pre]
  unfold f32.p0_r
  rfl
theorem f32.b_pre {R : Type} (L N : Nat) (κ : AV → Option R) (x0 : Graph) :
    evBody (E32 L N) (evCallI (E32 L N) 1 2000) 1000 32 Try.f32 [(.tv (.st 2) x0)] [] [] (finC (.one .bool) κ)
    = f32.b' L N (fun a0 => κ (.tv .bool a0)) (fun s3 s4 s5 s6 => evLp (E32 L N) (evCallI (E32 L N) 1 2000) 1000 32 64 0 f32.c0 (contAt (E32 L N) (evCallI (E32 L N) 1 2000) 1000 32 64 0 (codeOf Try.f32) (finK (E32 L N) 1000 Try.f32 (finC (.one .bool) κ))) L (f32.T0 s3 s4 s5 s6) (f32.H0 s3 s4 s5 s6)) x0 := by kernel_rfl
theorem f32.b_eq {R : Type} (L N : Nat) (κ : AV → Option R) (x0 : Graph) :
    evBody (E32 L N) (evCallI (E32 L N) 1 2000) 1000 32 Try.f32 [(.tv (.st 2) x0)] [] [] (finC (.one .bool) κ)
    = f32.b L N (fun a0 => κ (.tv .bool a0)) x0 := by
  rw [f32.b_pre]
  unfold f32.b
  simp only [f32.l0_eq, f32.p0_e0_eq, f32.p0_r_eq]
theorem f32.s1'_nat {R R' : Type} (j : R → Option R') (L N : Nat) (k1_e2 : (List (List Move)) → Int → Int → (List (List Move)) → Option R) (k1_r : Bool → (List (List Move)) → Int → Int → (List (List Move)) → Option R) (rec1 : (List Move) → (List (List Move)) → Int → Int → (List Move) → Int → Int → (List (List Move)) → Option R) (s7 : (List Move)) (s8 : (List (List Move))) (s9 : Int) (s10 : Int) (s11 : (List Move)) (s12 : Int) (s13 : Int) (s14 : (List (List Move))) :
    f32.s1' L N (fun a0 a1 a2 a3 => (k1_e2 a0 a1 a2 a3).bind j) (fun a0 a1 a2 a3 a4 => (k1_r a0 a1 a2 a3 a4).bind j) (fun a0 a1 a2 a3 a4 a5 a6 a7 => (rec1 a0 a1 a2 a3 a4 a5 a6 a7).bind j) s7 s8 s9 s10 s11 s12 s13 s14 = (f32.s1' L N k1_e2 k1_r rec1 s7 s8 s9 s10 s11 s12 s13 s14).bind j := by
  unfold f32.s1'
  repeat' (first | (with_reducible refine cond_nat ?_ ?_) | (with_reducible refine bind_nat fun _ => ?_) | rfl)
theorem f32.s1_nat {R R' : Type} (j : R → Option R') (L N : Nat) (k1_e2 : (List (List Move)) → Int → Int → (List (List Move)) → Option R) (k1_r : Bool → (List (List Move)) → Int → Int → (List (List Move)) → Option R) (rec1 : (List Move) → (List (List Move)) → Int → Int → (List Move) → Int → Int → (List (List Move)) → Option R) (s7 : (List Move)) (s8 : (List (List Move))) (s9 : Int) (s10 : Int) (s11 : (List Move)) (s12 : Int) (s13 : Int) (s14 : (List (List Move))) :
    f32.s1 L N (fun a0 a1 a2 a3 => (k1_e2 a0 a1 a2 a3).bind j) (fun a0 a1 a2 a3 a4 => (k1_r a0 a1 a2 a3 a4).bind j) (fun a0 a1 a2 a3 a4 a5 a6 a7 => (rec1 a0 a1 a2 a3 a4 a5 a6 a7).bind j) s7 s8 s9 s10 s11 s12 s13 s14 = (f32.s1 L N k1_e2 k1_r rec1 s7 s8 s9 s10 s11 s12 s13 s14).bind j := by
  unfold f32.s1
  exact f32.s1'_nat ..
theorem f32.l1_nat {R R' : Type} (j : R → Option R') (L N : Nat) (k1_e2 : (List (List Move)) → Int → Int → (List (List Move)) → Option R) (k1_r : Bool → (List (List Move)) → Int → Int → (List (List Move)) → Option R) : ∀ (n : Nat) (s7 : (List Move)) (s8 : (List (List Move))) (s9 : Int) (s10 : Int) (s11 : (List Move)) (s12 : Int) (s13 : Int) (s14 : (List (List Move))),
    f32.l1 L N (fun a0 a1 a2 a3 => (k1_e2 a0 a1 a2 a3).bind j) (fun a0 a1 a2 a3 a4 => (k1_r a0 a1 a2 a3 a4).bind j) n s7 s8 s9 s10 s11 s12 s13 s14 = (f32.l1 L N k1_e2 k1_r n s7 s8 s9 s10 s11 s12 s13 s14).bind j := by
  intro n
  induction n with
  | zero => intros; rfl
  | succ n ih =>
    intro s7 s8 s9 s10 s11 s12 s13 s14
    show f32.s1 L N (fun a0 a1 a2 a3 => (k1_e2 a0 a1 a2 a3).bind j) (fun a0 a1 a2 a3 a4 => (k1_r a0 a1 a2 a3 a4).bind j) (f32.l1 L N (fun a0 a1 a2 a3 => (k1_e2 a0 a1 a2 a3).bind j) (fun a0 a1 a2 a3 a4 => (k1_r a0 a1 a2 a3 a4).bind j) n) s7 s8 s9 s10 s11 s12 s13 s14 = _
    rw [show f32.l1 L N (fun a0 a1 a2 a3 => (k1_e2 a0 a1 a2 a3).bind j) (fun a0 a1 a2 a3 a4 => (k1_r a0 a1 a2 a3 a4).bind j) n = (fun s7 s8 s9 s10 s11 s12 s13 s14 => (f32.l1 L N k1_e2 k1_r n s7 s8 s9 s10 s11 s12 s13 s14).bind j) from funext fun s7 => funext fun s8 => funext fun s9 => funext fun s10 => funext fun s11 => funext fun s12 => funext fun s13 => funext fun s14 => ih s7 s8 s9 s10 s11 s12 s13 s14]
    exact f32.s1_nat ..
theorem f32.p1_e2'_nat {R R' : Type} (j : R → Option R') (L N : Nat) (k0_e0 : Option R) (k0_r : Bool → Option R) (rec0 : (List (List Move)) → Int → Int → (List (List Move)) → Option R) (z15 : (List (List Move))) (z16 : Int) (z17 : Int) (z18 : (List (List Move))) :
    f32.p1_e2' L N (k0_e0.bind j) (fun a0 => (k0_r a0).bind j) (fun a0 a1 a2 a3 => (rec0 a0 a1 a2 a3).bind j) z15 z16 z17 z18 = (f32.p1_e2' L N k0_e0 k0_r rec0 z15 z16 z17 z18).bind j := by
  unfold f32.p1_e2'
  repeat' (first | (with_reducible refine cond_nat ?_ ?_) | (with_reducible refine bind_nat fun _ => ?_) | rfl)
theorem f32.p1_e2_nat {R R' : Type} (j : R → Option R') (L N : Nat) (k0_e0 : Option R) (k0_r : Bool → Option R) (rec0 : (List (List Move)) → Int → Int → (List (List Move)) → Option R) (z15 : (List (List Move))) (z16 : Int) (z17 : Int) (z18 : (List (List Move))) :
    f32.p1_e2 L N (k0_e0.bind j) (fun a0 => (k0_r a0).bind j) (fun a0 a1 a2 a3 => (rec0 a0 a1 a2 a3).bind j) z15 z16 z17 z18 = (f32.p1_e2 L N k0_e0 k0_r rec0 z15 z16 z17 z18).bind j := by
  unfold f32.p1_e2
  exact f32.p1_e2'_nat ..
theorem f32.p1_r'_nat {R R' : Type} (j : R → Option R') (L N : Nat) (k0_e0 : Option R) (k0_r : Bool → Option R) (rec0 : (List (List Move)) → Int → Int → (List (List Move)) → Option R) (z30 : Bool) (z31 : (List (List Move))) (z32 : Int) (z33 : Int) (z34 : (List (List Move))) :
    f32.p1_r' L N (k0_e0.bind j) (fun a0 => (k0_r a0).bind j) (fun a0 a1 a2 a3 => (rec0 a0 a1 a2 a3).bind j) z30 z31 z32 z33 z34 = (f32.p1_r' L N k0_e0 k0_r rec0 z30 z31 z32 z33 z34).bind j := by
  unfold f32.p1_r'
  repeat' (first | (with_reducible refine cond_nat ?_ ?_) | (with_reducible refine bind_nat fun _ => ?_) | rfl)
theorem f32.p1_r_nat {R R' : Type} (j : R → Option R') (L N : Nat) (k0_e0 : Option R) (k0_r : Bool → Option R) (rec0 : (List (List Move)) → Int → Int → (List (List Move)) → Option R) (z30 : Bool) (z31 : (List (List Move))) (z32 : Int) (z33 : Int) (z34 : (List (List Move))) :
    f32.p1_r L N (k0_e0.bind j) (fun a0 => (k0_r a0).bind j) (fun a0 a1 a2 a3 => (rec0 a0 a1 a2 a3).bind j) z30 z31 z32 z33 z34 = (f32.p1_r L N k0_e0 k0_r rec0 z30 z31 z32 z33 z34).bind j := by
  unfold f32.p1_r
  exact f32.p1_r'_nat ..
theorem f32.s0'_nat {R R' : Type} (j : R → Option R') (L N : Nat) (k0_e0 : Option R) (k0_r : Bool → Option R) (rec0 : (List (List Move)) → Int → Int → (List (List Move)) → Option R) (w1 : (List Move) → (List (List Move)) → Int → Int → (List Move) → Int → Int → (List (List Move)) → Option R) (s3 : (List (List Move))) (s4 : Int) (s5 : Int) (s6 : (List (List Move))) :
    f32.s0' L N (k0_e0.bind j) (fun a0 => (k0_r a0).bind j) (fun a0 a1 a2 a3 => (rec0 a0 a1 a2 a3).bind j) (fun a0 a1 a2 a3 a4 a5 a6 a7 => (w1 a0 a1 a2 a3 a4 a5 a6 a7).bind j) s3 s4 s5 s6 = (f32.s0' L N k0_e0 k0_r rec0 w1 s3 s4 s5 s6).bind j := by
  unfold f32.s0'
  repeat' (first | (with_reducible refine cond_nat ?_ ?_) | (with_reducible refine bind_nat fun _ => ?_) | rfl)
theorem f32.s0_nat {R R' : Type} (j : R → Option R') (L N : Nat) (k0_e0 : Option R) (k0_r : Bool → Option R) (rec0 : (List (List Move)) → Int → Int → (List (List Move)) → Option R) (s3 : (List (List Move))) (s4 : Int) (s5 : Int) (s6 : (List (List Move))) :
    f32.s0 L N (k0_e0.bind j) (fun a0 => (k0_r a0).bind j) (fun a0 a1 a2 a3 => (rec0 a0 a1 a2 a3).bind j) s3 s4 s5 s6 = (f32.s0 L N k0_e0 k0_r rec0 s3 s4 s5 s6).bind j := by
  unfold f32.s0
  simp only [f32.l1_nat, f32.p1_e2_nat, f32.p1_r_nat]
  exact f32.s0'_nat ..
theorem f32.l0_nat {R R' : Type} (j : R → Option R') (L N : Nat) (k0_e0 : Option R) (k0_r : Bool → Option R) : ∀ (n : Nat) (s3 : (List (List Move))) (s4 : Int) (s5 : Int) (s6 : (List (List Move))),
    f32.l0 L N (k0_e0.bind j) (fun a0 => (k0_r a0).bind j) n s3 s4 s5 s6 = (f32.l0 L N k0_e0 k0_r n s3 s4 s5 s6).bind j := by
  intro n
  induction n with
  | zero => intros; rfl
  | succ n ih =>
    intro s3 s4 s5 s6
    show f32.s0 L N (k0_e0.bind j) (fun a0 => (k0_r a0).bind j) (f32.l0 L N (k0_e0.bind j) (fun a0 => (k0_r a0).bind j) n) s3 s4 s5 s6 = _
    rw [show f32.l0 L N (k0_e0.bind j) (fun a0 => (k0_r a0).bind j) n = (fun s3 s4 s5 s6 => (f32.l0 L N k0_e0 k0_r n s3 s4 s5 s6).bind j) from funext fun s3 => funext fun s4 => funext fun s5 => funext fun s6 => ih s3 s4 s5 s6]
    exact f32.s0_nat ..
theorem f32.p0_e0'_nat {R R' : Type} (j : R → Option R') (L N : Nat) (k : Bool → Option R) :
    f32.p0_e0' L N (fun a0 => (k a0).bind j) = (f32.p0_e0' L N k).bind j := by
  unfold f32.p0_e0'
  repeat' (first | (with_reducible refine cond_nat ?_ ?_) | (with_reducible refine bind_nat fun _ => ?_) | rfl)
theorem f32.p0_e0_nat {R R' : Type} (j : R → Option R') (L N : Nat) (k : Bool → Option R) :
    f32.p0_e0 L N (fun a0 => (k a0).bind j) = (f32.p0_e0 L N k).bind j := by
  unfold f32.p0_e0
  exact f32.p0_e0'_nat ..
theorem f32.p0_r'_nat {R R' : Type} (j : R → Option R') (L N : Nat) (k : Bool → Option R) (z43 : Bool) :
    f32.p0_r' L N (fun a0 => (k a0).bind j) z43 = (f32.p0_r' L N k z43).bind j := by
  unfold f32.p0_r'
  repeat' (first | (with_reducible refine cond_nat ?_ ?_) | (with_reducible refine bind_nat fun _ => ?_) | rfl)
theorem f32.p0_r_nat {R R' : Type} (j : R → Option R') (L N : Nat) (k : Bool → Option R) (z43 : Bool) :
    f32.p0_r L N (fun a0 => (k a0).bind j) z43 = (f32.p0_r L N k z43).bind j := by
  unfold f32.p0_r
  exact f32.p0_r'_nat ..
theorem f32.j0'_nat {R R' : Type} (j : R → Option R') (L N : Nat) (k : Bool → Option R) (w0 : (List (List Move)) → Int → Int → (List (List Move)) → Option R) (v2 : (List (List Move))) :
    f32.j0' L N (fun a0 => (k a0).bind j) (fun a0 a1 a2 a3 => (w0 a0 a1 a2 a3).bind j) v2 = (f32.j0' L N k w0 v2).bind j := by
  unfold f32.j0'
  repeat' (first | (with_reducible refine cond_nat ?_ ?_) | (with_reducible refine bind_nat fun _ => ?_) | rfl)
theorem f32.b'_nat {R R' : Type} (j : R → Option R') (L N : Nat) (k : Bool → Option R) (w0 : (List (List Move)) → Int → Int → (List (List Move)) → Option R) (x0 : Graph) :
    f32.b' L N (fun a0 => (k a0).bind j) (fun a0 a1 a2 a3 => (w0 a0 a1 a2 a3).bind j) x0 = (f32.b' L N k w0 x0).bind j := by
  unfold f32.b'
  repeat' (first | (with_reducible refine cond_nat ?_ ?_) | (with_reducible refine bind_nat fun _ => ?_) | exact f32.j0'_nat .. | rfl)
theorem f32.b_nat {R R' : Type} (j : R → Option R') (L N : Nat) (k : Bool → Option R) (x0 : Graph) :
    f32.b L N (fun a0 => (k a0).bind j) x0 = (f32.b L N k x0).bind j := by
  unfold f32.b
  simp only [f32.l0_nat, f32.p0_e0_nat, f32.p0_r_nat]
  exact f32.b'_nat ..
theorem f32.ok (L N : Nat) (hΦ : TellsOk Try.prog ((Φ73 L N))) : EntOk Try.prog 32 (f32.ent L N) := by
  intro args vw site h
  unfold f32.ent
  split
  · rename_i d ha
    intro y hy hs
    refine call_ro (dep := 1000) (E := (E32 L N)) (rs := (.one .bool)) (v := (.tv .bool y)) (sound_of hΦ) okP (callI_sound (sound_of hΦ) okP 1 2000) (f := Try.f32) rfl hs ha ?_ rfl site
    refine (f32.b_eq L N some d.1).trans ?_
    refine ((f32.b_nat (fun y => (some (.tv .bool y) : Option AV)) L N some d.1)).trans ?_
    rw [show f32.b L N some d.1 = some y from hy]
    rfl
  · intro y hy
    cases hy
def Φ32 (L N : Nat) : Tells := (addT (Φ73 L N) 32 (f32.ent L N))
theorem Φ32_ok (L N : Nat) : TellsOk Try.prog (Φ32 L N) := addT_ok (Φ73_ok L N) (f32.ok L N (Φ73_ok L N))
def f92.s0' {R : Type} (L N : Nat) (self92 : Tree → Int → Option (Int)) (k0_e0 : Int → Option R) (k0_r : Int → Int → Option R) (rec0 : Int → Int → (List Tree) → Int → Int → Option R) (s0 : Int) (s1 : Int) (s2 : (List Tree)) (s3 : Int) (s4 : Int) : Option R :=
  bif (decide (s4 < s3)) then
    bif (decide (0 ≤ s4) && decide (s4 < (s2.length : Int))) then
      bif (decide (s1 > s0)) then
        k0_r s1 s1
      else (self92 (Tree.mk ((listAt s2 (Ty.dflt (.st 1)) s4.toNat).op) ((listAt s2 (Ty.dflt (.st 1)) s4.toNat).n) ((listAt s2 (Ty.dflt (.st 1)) s4.toNat).parts)) (wi (s0 - s1))).bind fun y8 =>
      rec0 s0 (wi (s1 + y8)) s2 s3 (wi (s4 + (1 : Int)))
    else none
  else k0_e0 s1
def f92.s0 {R : Type} (L N : Nat) (self92 : Tree → Int → Option (Int)) (k0_e0 : Int → Option R) (k0_r : Int → Int → Option R) (rec0 : Int → Int → (List Tree) → Int → Int → Option R) (s0 : Int) (s1 : Int) (s2 : (List Tree)) (s3 : Int) (s4 : Int) : Option R :=
  f92.s0' L N self92 k0_e0 k0_r rec0 s0 s1 s2 s3 s4
def f92.l0 {R : Type} (L N : Nat) (self92 : Tree → Int → Option (Int)) (k0_e0 : Int → Option R) (k0_r : Int → Int → Option R) : Nat → Int → Int → (List Tree) → Int → Int → Option R
  | 0, _, _, _, _, _ => none
  | n + 1, s0, s1, s2, s3, s4 => f92.s0 L N self92 k0_e0 k0_r (f92.l0 L N self92 k0_e0 k0_r n) s0 s1 s2 s3 s4
def f92.T0 (s0 : Int) (s1 : Int) (s2 : (List Tree)) (s3 : Int) (s4 : Int) : T := mkT 28 [(1, (.tv i64 s0)), (5, (.tv i64 s1)), (9, (.tv (.sl (.st 1)) s2)), (10, (.tv i64 s3)), (11, (.tv i64 s4))]
def f92.H0 (s0 : Int) (s1 : Int) (s2 : (List Tree)) (s3 : Int) (s4 : Int) : H := []
def f92.T0_e0 (z5 : Int) : T := mkT 28 [(5, (.tv i64 z5))]
def f92.H0_e0 (z5 : Int) : H := []
def f92.T0_r (z6 : Int) (z7 : Int) : T := mkT 28 [(4, (.tv i64 z6)), (5, (.tv i64 z7))]
def f92.H0_r (z6 : Int) (z7 : Int) : H := []
def f92.p0_e0' {R : Type} (L N : Nat) (self92 : Tree → Int → Option (Int)) (k : Int → Option R) (z5 : Int) : Option R :=
  k z5
def f92.p0_e0 {R : Type} (L N : Nat) (self92 : Tree → Int → Option (Int)) (k : Int → Option R) (z5 : Int) : Option R :=
  f92.p0_e0' L N self92 k z5
def f92.p0_r' {R : Type} (L N : Nat) (self92 : Tree → Int → Option (Int)) (k : Int → Option R) (z6 : Int) (z7 : Int) : Option R :=
  k z6
def f92.p0_r {R : Type} (L N : Nat) (self92 : Tree → Int → Option (Int)) (k : Int → Option R) (z6 : Int) (z7 : Int) : Option R :=
  f92.p0_r' L N self92 k z6 z7
def f92.b' {R : Type} (L N : Nat) (self92 : Tree → Int → Option (Int)) (k : Int → Option R) (w0 : Int → Int → (List Tree) → Int → Int → Option R) (x0 : Tree) (x1 : Int) : Option R :=
  w0 x1 (1 : Int) x0.parts (x0.parts.length : Int) (0 : Int)
def f92.b {R : Type} (L N : Nat) (self92 : Tree → Int → Option (Int)) (k : Int → Option R) (x0 : Tree) (x1 : Int) : Option R :=
  f92.b' L N self92 k (fun s0 s1 s2 s3 s4 => f92.l0 L N self92 (fun z5 => f92.p0_e0 L N self92 k z5) (fun z6 z7 => f92.p0_r L N self92 k z6 z7) L s0 s1 s2 s3 s4) x0 x1
def f92 (L N : Nat) : Nat → Tree → Int → Option (Int)
  | 0, _, _ => none
  | n + 1, x0, x1 => f92.b L N (f92 L N n) some x0 x1
def f92.ent (L N m : Nat) (args : List AV) (vw : View) (site : Nat) : Ans := match roD [(.st 1), i64] vw args with
  | some d => ⟨Int, f92 L N m d.1 d.2.1, fun y => ((.tv i64 y), [], [])⟩
  | none => Ans.no
def Φ92s (L N m : Nat) : Tells := (addT (Φ32 L N) 92 (f92.ent L N m))
noncomputable def E92 (L N m : Nat) : Env := { P := Try.prog, ty := tyOf, Φ := Φ92s L N m, inl := inlT, live := lives, liveX := livesX, L := L, dp := none, prom := promT, heal := healT, ren := renT }
noncomputable def f92.c0 : Code := loopAt 0 (codeOf Try.f92)
theorem f92.s0_pre {R : Type} (L N m : Nat) (κ : Ex → T → H → Option R) (rec : T → H → Option R) (s0 : Int) (s1 : Int) (s2 : (List Tree)) (s3 : Int) (s4 : Int) :
    evRd (E92 L N m) (evCallI (E92 L N m) 1 2000) 1000 92 28 0 f92.c0 κ rec (f92.T0 s0 s1 s2 s3 s4) (f92.H0 s0 s1 s2 s3 s4)
    = f92.s0' L N (f92 L N m) (fun z5 => κ (.exit 0) (f92.T0_e0 z5) (f92.H0_e0 z5)) (fun z6 z7 => κ .ret (f92.T0_r z6 z7) (f92.H0_r z6 z7)) (fun s0 s1 s2 s3 s4 => rec (f92.T0 s0 s1 s2 s3 s4) (f92.H0 s0 s1 s2 s3 s4)) s0 s1 s2 s3 s4 := by kernel_rfl
theorem f92.s0_eq {R : Type} (L N m : Nat) (κ : Ex → T → H → Option R) (rec : T → H → Option R) (s0 : Int) (s1 : Int) (s2 : (List Tree)) (s3 : Int) (s4 : Int) :
    evRd (E92 L N m) (evCallI (E92 L N m) 1 2000) 1000 92 28 0 f92.c0 κ rec (f92.T0 s0 s1 s2 s3 s4) (f92.H0 s0 s1 s2 s3 s4)
    = f92.s0 L N (f92 L N m) (fun z5 => κ (.exit 0) (f92.T0_e0 z5) (f92.H0_e0 z5)) (fun z6 z7 => κ .ret (f92.T0_r z6 z7) (f92.H0_r z6 z7)) (fun s0 s1 s2 s3 s4 => rec (f92.T0 s0 s1 s2 s3 s4) (f92.H0 s0 s1 s2 s3 s4)) s0 s1 s2 s3 s4 := by
  rw [f92.s0_pre]
  unfold f92.s0
  rfl
theorem f92.l0_eq {R : Type} (L N m : Nat) (κ : Ex → T → H → Option R) : ∀ (n : Nat) (s0 : Int) (s1 : Int) (s2 : (List Tree)) (s3 : Int) (s4 : Int),
    evLp (E92 L N m) (evCallI (E92 L N m) 1 2000) 1000 92 28 0 f92.c0 κ n (f92.T0 s0 s1 s2 s3 s4) (f92.H0 s0 s1 s2 s3 s4)
    = f92.l0 L N (f92 L N m) (fun z5 => κ (.exit 0) (f92.T0_e0 z5) (f92.H0_e0 z5)) (fun z6 z7 => κ .ret (f92.T0_r z6 z7) (f92.H0_r z6 z7)) n s0 s1 s2 s3 s4 := by
  intro n
  induction n with
  | zero => intros; rfl
  | succ n ih =>
    intro s0 s1 s2 s3 s4
    rw [evLp_succ, f92.s0_eq]
    simp only [ih]
    rfl
theorem f92.p0_e0_pre {R : Type} (L N m : Nat) (κ : AV → Option R) (z5 : Int) :
    (contAt (E92 L N m) (evCallI (E92 L N m) 1 2000) 1000 92 28 0 (codeOf Try.f92) (finK (E92 L N m) 1000 Try.f92 (finC (.one i64) κ))) (.exit 0) (f92.T0_e0 z5) (f92.H0_e0 z5)
    = f92.p0_e0' L N (f92 L N m) (fun a0 => κ (.tv i64 a0)) z5 := by kernel_rfl
theorem f92.p0_e0_eq {R : Type} (L N m : Nat) (κ : AV → Option R) (z5 : Int) :
    (contAt (E92 L N m) (evCallI (E92 L N m) 1 2000) 1000 92 28 0 (codeOf Try.f92) (finK (E92 L N m) 1000 Try.f92 (finC (.one i64) κ))) (.exit 0) (f92.T0_e0 z5) (f92.H0_e0 z5)
    = f92.p0_e0 L N (f92 L N m) (fun a0 => κ (.tv i64 a0)) z5 := by
  rw [f92.p0_e0_pre]
  unfold f92.p0_e0
  rfl
theorem f92.p0_r_pre {R : Type} (L N m : Nat) (κ : AV → Option R) (z6 : Int) (z7 : Int) :
    (contAt (E92 L N m) (evCallI (E92 L N m) 1 2000) 1000 92 28 0 (codeOf Try.f92) (finK (E92 L N m) 1000 Try.f92 (finC (.one i64) κ))) .ret (f92.T0_r z6 z7) (f92.H0_r z6 z7)
    = f92.p0_r' L N (f92 L N m) (fun a0 => κ (.tv i64 a0)) z6 z7 := by kernel_rfl
theorem f92.p0_r_eq {R : Type} (L N m : Nat) (κ : AV → Option R) (z6 : Int) (z7 : Int) :
    (contAt (E92 L N m) (evCallI (E92 L N m) 1 2000) 1000 92 28 0 (codeOf Try.f92) (finK (E92 L N m) 1000 Try.f92 (finC (.one i64) κ))) .ret (f92.T0_r z6 z7) (f92.H0_r z6 z7)
    = f92.p0_r L N (f92 L N m) (fun a0 => κ (.tv i64 a0)) z6 z7 := by
  rw [f92.p0_r_pre]
  unfold f92.p0_r
  rfl
theorem f92.b_pre {R : Type} (L N m : Nat) (κ : AV → Option R) (x0 : Tree) (x1 : Int) :
    evBody (E92 L N m) (evCallI (E92 L N m) 1 2000) 1000 92 Try.f92 [(.tv (.st 1) x0), (.tv i64 x1)] [] [] (finC (.one i64) κ)
    = f92.b' L N (f92 L N m) (fun a0 => κ (.tv i64 a0)) (fun s0 s1 s2 s3 s4 => evLp (E92 L N m) (evCallI (E92 L N m) 1 2000) 1000 92 28 0 f92.c0 (contAt (E92 L N m) (evCallI (E92 L N m) 1 2000) 1000 92 28 0 (codeOf Try.f92) (finK (E92 L N m) 1000 Try.f92 (finC (.one i64) κ))) L (f92.T0 s0 s1 s2 s3 s4) (f92.H0 s0 s1 s2 s3 s4)) x0 x1 := by kernel_rfl
theorem f92.b_eq {R : Type} (L N m : Nat) (κ : AV → Option R) (x0 : Tree) (x1 : Int) :
    evBody (E92 L N m) (evCallI (E92 L N m) 1 2000) 1000 92 Try.f92 [(.tv (.st 1) x0), (.tv i64 x1)] [] [] (finC (.one i64) κ)
    = f92.b L N (f92 L N m) (fun a0 => κ (.tv i64 a0)) x0 x1 := by
  rw [f92.b_pre]
  unfold f92.b
  simp only [f92.l0_eq, f92.p0_e0_eq, f92.p0_r_eq]
theorem f92.s0'_nat {R R' : Type} (j : R → Option R') (L N : Nat) (self92 : Tree → Int → Option (Int)) (k0_e0 : Int → Option R) (k0_r : Int → Int → Option R) (rec0 : Int → Int → (List Tree) → Int → Int → Option R) (s0 : Int) (s1 : Int) (s2 : (List Tree)) (s3 : Int) (s4 : Int) :
    f92.s0' L N self92 (fun a0 => (k0_e0 a0).bind j) (fun a0 a1 => (k0_r a0 a1).bind j) (fun a0 a1 a2 a3 a4 => (rec0 a0 a1 a2 a3 a4).bind j) s0 s1 s2 s3 s4 = (f92.s0' L N self92 k0_e0 k0_r rec0 s0 s1 s2 s3 s4).bind j := by
  unfold f92.s0'
  repeat' (first | (with_reducible refine cond_nat ?_ ?_) | (with_reducible refine bind_nat fun _ => ?_) | rfl)
theorem f92.s0_nat {R R' : Type} (j : R → Option R') (L N : Nat) (self92 : Tree → Int → Option (Int)) (k0_e0 : Int → Option R) (k0_r : Int → Int → Option R) (rec0 : Int → Int → (List Tree) → Int → Int → Option R) (s0 : Int) (s1 : Int) (s2 : (List Tree)) (s3 : Int) (s4 : Int) :
    f92.s0 L N self92 (fun a0 => (k0_e0 a0).bind j) (fun a0 a1 => (k0_r a0 a1).bind j) (fun a0 a1 a2 a3 a4 => (rec0 a0 a1 a2 a3 a4).bind j) s0 s1 s2 s3 s4 = (f92.s0 L N self92 k0_e0 k0_r rec0 s0 s1 s2 s3 s4).bind j := by
  unfold f92.s0
  exact f92.s0'_nat ..
theorem f92.l0_nat {R R' : Type} (j : R → Option R') (L N : Nat) (self92 : Tree → Int → Option (Int)) (k0_e0 : Int → Option R) (k0_r : Int → Int → Option R) : ∀ (n : Nat) (s0 : Int) (s1 : Int) (s2 : (List Tree)) (s3 : Int) (s4 : Int),
    f92.l0 L N self92 (fun a0 => (k0_e0 a0).bind j) (fun a0 a1 => (k0_r a0 a1).bind j) n s0 s1 s2 s3 s4 = (f92.l0 L N self92 k0_e0 k0_r n s0 s1 s2 s3 s4).bind j := by
  intro n
  induction n with
  | zero => intros; rfl
  | succ n ih =>
    intro s0 s1 s2 s3 s4
    show f92.s0 L N self92 (fun a0 => (k0_e0 a0).bind j) (fun a0 a1 => (k0_r a0 a1).bind j) (f92.l0 L N self92 (fun a0 => (k0_e0 a0).bind j) (fun a0 a1 => (k0_r a0 a1).bind j) n) s0 s1 s2 s3 s4 = _
    rw [show f92.l0 L N self92 (fun a0 => (k0_e0 a0).bind j) (fun a0 a1 => (k0_r a0 a1).bind j) n = (fun s0 s1 s2 s3 s4 => (f92.l0 L N self92 k0_e0 k0_r n s0 s1 s2 s3 s4).bind j) from funext fun s0 => funext fun s1 => funext fun s2 => funext fun s3 => funext fun s4 => ih s0 s1 s2 s3 s4]
    exact f92.s0_nat ..
theorem f92.p0_e0'_nat {R R' : Type} (j : R → Option R') (L N : Nat) (self92 : Tree → Int → Option (Int)) (k : Int → Option R) (z5 : Int) :
    f92.p0_e0' L N self92 (fun a0 => (k a0).bind j) z5 = (f92.p0_e0' L N self92 k z5).bind j := by
  unfold f92.p0_e0'
  repeat' (first | (with_reducible refine cond_nat ?_ ?_) | (with_reducible refine bind_nat fun _ => ?_) | rfl)
theorem f92.p0_e0_nat {R R' : Type} (j : R → Option R') (L N : Nat) (self92 : Tree → Int → Option (Int)) (k : Int → Option R) (z5 : Int) :
    f92.p0_e0 L N self92 (fun a0 => (k a0).bind j) z5 = (f92.p0_e0 L N self92 k z5).bind j := by
  unfold f92.p0_e0
  exact f92.p0_e0'_nat ..
theorem f92.p0_r'_nat {R R' : Type} (j : R → Option R') (L N : Nat) (self92 : Tree → Int → Option (Int)) (k : Int → Option R) (z6 : Int) (z7 : Int) :
    f92.p0_r' L N self92 (fun a0 => (k a0).bind j) z6 z7 = (f92.p0_r' L N self92 k z6 z7).bind j := by
  unfold f92.p0_r'
  repeat' (first | (with_reducible refine cond_nat ?_ ?_) | (with_reducible refine bind_nat fun _ => ?_) | rfl)
theorem f92.p0_r_nat {R R' : Type} (j : R → Option R') (L N : Nat) (self92 : Tree → Int → Option (Int)) (k : Int → Option R) (z6 : Int) (z7 : Int) :
    f92.p0_r L N self92 (fun a0 => (k a0).bind j) z6 z7 = (f92.p0_r L N self92 k z6 z7).bind j := by
  unfold f92.p0_r
  exact f92.p0_r'_nat ..
theorem f92.b'_nat {R R' : Type} (j : R → Option R') (L N : Nat) (self92 : Tree → Int → Option (Int)) (k : Int → Option R) (w0 : Int → Int → (List Tree) → Int → Int → Option R) (x0 : Tree) (x1 : Int) :
    f92.b' L N self92 (fun a0 => (k a0).bind j) (fun a0 a1 a2 a3 a4 => (w0 a0 a1 a2 a3 a4).bind j) x0 x1 = (f92.b' L N self92 k w0 x0 x1).bind j := by
  unfold f92.b'
  repeat' (first | (with_reducible refine cond_nat ?_ ?_) | (with_reducible refine bind_nat fun _ => ?_) | rfl)
theorem f92.b_nat {R R' : Type} (j : R → Option R') (L N : Nat) (self92 : Tree → Int → Option (Int)) (k : Int → Option R) (x0 : Tree) (x1 : Int) :
    f92.b L N self92 (fun a0 => (k a0).bind j) x0 x1 = (f92.b L N self92 k x0 x1).bind j := by
  unfold f92.b
  simp only [f92.l0_nat, f92.p0_e0_nat, f92.p0_r_nat]
  exact f92.b'_nat ..
theorem f92.ok (L N m : Nat) (hΦ : TellsOk Try.prog (Φ92s L N m)) : EntOk Try.prog 92 (f92.ent L N (m + 1)) := by
  intro args vw site h
  unfold f92.ent
  split
  · rename_i d ha
    intro y hy hs
    refine call_ro (dep := 1000) (E := (E92 L N m)) (rs := (.one i64)) (v := (.tv i64 y)) (sound_of hΦ) okP (callI_sound (sound_of hΦ) okP 1 2000) (f := Try.f92) rfl hs ha ?_ rfl site
    refine (f92.b_eq L N m some d.1 d.2.1).trans ?_
    refine ((f92.b_nat (fun y => (some (.tv i64 y) : Option AV)) L N (f92 L N m) some d.1 d.2.1)).trans ?_
    rw [show f92.b L N (f92 L N m) some d.1 d.2.1 = some y from hy]
    rfl
  · intro y hy
    cases hy
theorem Φ92s_ok (L N : Nat) : ∀ m, TellsOk Try.prog (Φ92s L N m) := by
  intro m
  induction m with
  | zero => exact (addT_ok (Φ32_ok L N) (fun args vw site h => by unfold f92.ent; split <;> (intro y hy; cases hy)))
  | succ m ih => exact (addT_ok (Φ32_ok L N) (f92.ok L N m ih))
def Φ92 (L N : Nat) : Tells := (addT (Φ32 L N) 92 (f92.ent L N N))
theorem Φ92_ok (L N : Nat) : TellsOk Try.prog (Φ92 L N) := Φ92s_ok L N N
def f93.s0' {R : Type} (L N : Nat) (self93 : Tree → Option (Bool)) (k0_e1 : Option R) (k0_r : Bool → Option R) (rec0 : (List Tree) → Int → Int → Option R) (s13 : (List Tree)) (s14 : Int) (s15 : Int) : Option R :=
  bif (decide (s15 < s14)) then
    bif (decide (0 ≤ s15) && decide (s15 < (s13.length : Int))) then
      (self93 (Tree.mk ((listAt s13 (Ty.dflt (.st 1)) s15.toNat).op) ((listAt s13 (Ty.dflt (.st 1)) s15.toNat).n) ((listAt s13 (Ty.dflt (.st 1)) s15.toNat).parts))).bind fun y16 =>
      bif (!y16) then
        k0_r false
      else rec0 s13 s14 (wi (s15 + (1 : Int)))
    else none
  else k0_e1
def f93.s0 {R : Type} (L N : Nat) (self93 : Tree → Option (Bool)) (k0_e1 : Option R) (k0_r : Bool → Option R) (rec0 : (List Tree) → Int → Int → Option R) (s13 : (List Tree)) (s14 : Int) (s15 : Int) : Option R :=
  f93.s0' L N self93 k0_e1 k0_r rec0 s13 s14 s15
def f93.l0 {R : Type} (L N : Nat) (self93 : Tree → Option (Bool)) (k0_e1 : Option R) (k0_r : Bool → Option R) : Nat → (List Tree) → Int → Int → Option R
  | 0, _, _, _ => none
  | n + 1, s13, s14, s15 => f93.s0 L N self93 k0_e1 k0_r (f93.l0 L N self93 k0_e1 k0_r n) s13 s14 s15
def f93.T0 (s13 : (List Tree)) (s14 : Int) (s15 : Int) : T := mkT 48 [(38, (.tv (.sl (.st 1)) s13)), (39, (.tv i64 s14)), (40, (.tv i64 s15))]
def f93.H0 (s13 : (List Tree)) (s14 : Int) (s15 : Int) : H := []
def f93.T0_e1 : T := mkT 48 []
def f93.H0_e1 : H := []
def f93.T0_r (z17 : Bool) : T := mkT 48 [(2, (.tv .bool z17))]
def f93.H0_r (z17 : Bool) : H := []
def f93.p0_e1' {R : Type} (L N : Nat) (self93 : Tree → Option (Bool)) (k : Bool → Option R) : Option R :=
  k true
def f93.p0_e1 {R : Type} (L N : Nat) (self93 : Tree → Option (Bool)) (k : Bool → Option R) : Option R :=
  f93.p0_e1' L N self93 k
def f93.p0_r' {R : Type} (L N : Nat) (self93 : Tree → Option (Bool)) (k : Bool → Option R) (z17 : Bool) : Option R :=
  k z17
def f93.p0_r {R : Type} (L N : Nat) (self93 : Tree → Option (Bool)) (k : Bool → Option R) (z17 : Bool) : Option R :=
  f93.p0_r' L N self93 k z17
def f93.j0' {R : Type} (L N : Nat) (self93 : Tree → Option (Bool)) (k : Bool → Option R) (w0 : (List Tree) → Int → Int → Option R) (v10 : Int) (v11 : Int) (v12 : (List Tree)) : Option R :=
  w0 v12 (v12.length : Int) (0 : Int)
def f93.j1' {R : Type} (L N : Nat) (self93 : Tree → Option (Bool)) (k : Bool → Option R) (w0 : (List Tree) → Int → Int → Option R) (v0 : Int) (v1 : Int) (v2 : Int) (v3 : (List Tree)) : Option R :=
  bif ((v3.length : Int) != v0) then
    k false
  else bif (v1 != (3 : Int)) then
    bif (v2 != (0 : Int)) then
      k false
    else (f72 L N v2).bind fun y4 =>
    bif (!y4) then
      k false
    else f93.j0' L N self93 k w0 v1 v2 v3
  else (f72 L N v2).bind fun y5 =>
  bif (!y5) then
    k false
  else f93.j0' L N self93 k w0 v1 v2 v3
def f93.b' {R : Type} (L N : Nat) (self93 : Tree → Option (Bool)) (k : Bool → Option R) (w0 : (List Tree) → Int → Int → Option R) (x0 : Tree) : Option R :=
  bif (x0.op == (0 : Int)) then
    f93.j1' L N self93 k w0 (0 : Int) x0.op x0.n x0.parts
  else bif (x0.op == (1 : Int)) then
    f93.j1' L N self93 k w0 (1 : Int) x0.op x0.n x0.parts
  else bif (x0.op == (2 : Int)) then
    f93.j1' L N self93 k w0 (2 : Int) x0.op x0.n x0.parts
  else bif (x0.op == (3 : Int)) then
    f93.j1' L N self93 k w0 (1 : Int) x0.op x0.n x0.parts
  else k false
def f93.b {R : Type} (L N : Nat) (self93 : Tree → Option (Bool)) (k : Bool → Option R) (x0 : Tree) : Option R :=
  f93.b' L N self93 k (fun s13 s14 s15 => f93.l0 L N self93 (f93.p0_e1 L N self93 k) (fun z17 => f93.p0_r L N self93 k z17) L s13 s14 s15) x0
def f93 (L N : Nat) : Nat → Tree → Option (Bool)
  | 0, _ => none
  | n + 1, x0 => f93.b L N (f93 L N n) some x0
def f93.ent (L N m : Nat) (args : List AV) (vw : View) (site : Nat) : Ans := match roD [(.st 1)] vw args with
  | some d => ⟨Bool, f93 L N m d.1, fun y => ((.tv .bool y), [], [])⟩
  | none => Ans.no
def Φ93s (L N m : Nat) : Tells := (addT (Φ92 L N) 93 (f93.ent L N m))
noncomputable def E93 (L N m : Nat) : Env := { P := Try.prog, ty := tyOf, Φ := Φ93s L N m, inl := inlT, live := lives, liveX := livesX, L := L, dp := none, prom := promT, heal := healT, ren := renT }
noncomputable def f93.c0 : Code := loopAt 1 (codeOf Try.f93)
theorem f93.s0_pre {R : Type} (L N m : Nat) (κ : Ex → T → H → Option R) (rec : T → H → Option R) (s13 : (List Tree)) (s14 : Int) (s15 : Int) :
    evRd (E93 L N m) (evCallI (E93 L N m) 1 2000) 1000 93 48 1 f93.c0 κ rec (f93.T0 s13 s14 s15) (f93.H0 s13 s14 s15)
    = f93.s0' L N (f93 L N m) (κ (.exit 1) f93.T0_e1 f93.H0_e1) (fun z17 => κ .ret (f93.T0_r z17) (f93.H0_r z17)) (fun s13 s14 s15 => rec (f93.T0 s13 s14 s15) (f93.H0 s13 s14 s15)) s13 s14 s15 := by kernel_rfl
theorem f93.s0_eq {R : Type} (L N m : Nat) (κ : Ex → T → H → Option R) (rec : T → H → Option R) (s13 : (List Tree)) (s14 : Int) (s15 : Int) :
    evRd (E93 L N m) (evCallI (E93 L N m) 1 2000) 1000 93 48 1 f93.c0 κ rec (f93.T0 s13 s14 s15) (f93.H0 s13 s14 s15)
    = f93.s0 L N (f93 L N m) (κ (.exit 1) f93.T0_e1 f93.H0_e1) (fun z17 => κ .ret (f93.T0_r z17) (f93.H0_r z17)) (fun s13 s14 s15 => rec (f93.T0 s13 s14 s15) (f93.H0 s13 s14 s15)) s13 s14 s15 := by
  rw [f93.s0_pre]
  unfold f93.s0
  rfl
theorem f93.l0_eq {R : Type} (L N m : Nat) (κ : Ex → T → H → Option R) : ∀ (n : Nat) (s13 : (List Tree)) (s14 : Int) (s15 : Int),
    evLp (E93 L N m) (evCallI (E93 L N m) 1 2000) 1000 93 48 1 f93.c0 κ n (f93.T0 s13 s14 s15) (f93.H0 s13 s14 s15)
    = f93.l0 L N (f93 L N m) (κ (.exit 1) f93.T0_e1 f93.H0_e1) (fun z17 => κ .ret (f93.T0_r z17) (f93.H0_r z17)) n s13 s14 s15 := by
  intro n
  induction n with
  | zero => intros; rfl
  | succ n ih =>
    intro s13 s14 s15
    rw [evLp_succ, f93.s0_eq]
    simp only [ih]
    rfl
theorem f93.p0_e1_pre {R : Type} (L N m : Nat) (κ : AV → Option R) :
    (contAt (E93 L N m) (evCallI (E93 L N m) 1 2000) 1000 93 48 1 (codeOf Try.f93) (finK (E93 L N m) 1000 Try.f93 (finC (.one .bool) κ))) (.exit 1) f93.T0_e1 f93.H0_e1
    = f93.p0_e1' L N (f93 L N m) (fun a0 => κ (.tv .bool a0)) := by kernel_rfl
theorem f93.p0_e1_eq {R : Type} (L N m : Nat) (κ : AV → Option R) :
    (contAt (E93 L N m) (evCallI (E93 L N m) 1 2000) 1000 93 48 1 (codeOf Try.f93) (finK (E93 L N m) 1000 Try.f93 (finC (.one .bool) κ))) (.exit 1) f93.T0_e1 f93.H0_e1
    = f93.p0_e1 L N (f93 L N m) (fun a0 => κ (.tv .bool a0)) := by
  rw [f93.p0_e1_pre]
  unfold f93.p0_e1
  rfl
theorem f93.p0_r_pre {R : Type} (L N m : Nat) (κ : AV → Option R) (z17 : Bool) :
    (contAt (E93 L N m) (evCallI (E93 L N m) 1 2000) 1000 93 48 1 (codeOf Try.f93) (finK (E93 L N m) 1000 Try.f93 (finC (.one .bool) κ))) .ret (f93.T0_r z17) (f93.H0_r z17)
    = f93.p0_r' L N (f93 L N m) (fun a0 => κ (.tv .bool a0)) z17 := by kernel_rfl
theorem f93.p0_r_eq {R : Type} (L N m : Nat) (κ : AV → Option R) (z17 : Bool) :
    (contAt (E93 L N m) (evCallI (E93 L N m) 1 2000) 1000 93 48 1 (codeOf Try.f93) (finK (E93 L N m) 1000 Try.f93 (finC (.one .bool) κ))) .ret (f93.T0_r z17) (f93.H0_r z17)
    = f93.p0_r L N (f93 L N m) (fun a0 => κ (.tv .bool a0)) z17 := by
  rw [f93.p0_r_pre]
  unfold f93.p0_r
  rfl
theorem f93.b_pre {R : Type} (L N m : Nat) (κ : AV → Option R) (x0 : Tree) :
    evBody (E93 L N m) (evCallI (E93 L N m) 1 2000) 1000 93 Try.f93 [(.tv (.st 1) x0)] [] [] (finC (.one .bool) κ)
    = f93.b' L N (f93 L N m) (fun a0 => κ (.tv .bool a0)) (fun s13 s14 s15 => evLp (E93 L N m) (evCallI (E93 L N m) 1 2000) 1000 93 48 1 f93.c0 (contAt (E93 L N m) (evCallI (E93 L N m) 1 2000) 1000 93 48 1 (codeOf Try.f93) (finK (E93 L N m) 1000 Try.f93 (finC (.one .bool) κ))) L (f93.T0 s13 s14 s15) (f93.H0 s13 s14 s15)) x0 := by kernel_rfl
theorem f93.b_eq {R : Type} (L N m : Nat) (κ : AV → Option R) (x0 : Tree) :
    evBody (E93 L N m) (evCallI (E93 L N m) 1 2000) 1000 93 Try.f93 [(.tv (.st 1) x0)] [] [] (finC (.one .bool) κ)
    = f93.b L N (f93 L N m) (fun a0 => κ (.tv .bool a0)) x0 := by
  rw [f93.b_pre]
  unfold f93.b
  simp only [f93.l0_eq, f93.p0_e1_eq, f93.p0_r_eq]
theorem f93.s0'_nat {R R' : Type} (j : R → Option R') (L N : Nat) (self93 : Tree → Option (Bool)) (k0_e1 : Option R) (k0_r : Bool → Option R) (rec0 : (List Tree) → Int → Int → Option R) (s13 : (List Tree)) (s14 : Int) (s15 : Int) :
    f93.s0' L N self93 (k0_e1.bind j) (fun a0 => (k0_r a0).bind j) (fun a0 a1 a2 => (rec0 a0 a1 a2).bind j) s13 s14 s15 = (f93.s0' L N self93 k0_e1 k0_r rec0 s13 s14 s15).bind j := by
  unfold f93.s0'
  repeat' (first | (with_reducible refine cond_nat ?_ ?_) | (with_reducible refine bind_nat fun _ => ?_) | rfl)
theorem f93.s0_nat {R R' : Type} (j : R → Option R') (L N : Nat) (self93 : Tree → Option (Bool)) (k0_e1 : Option R) (k0_r : Bool → Option R) (rec0 : (List Tree) → Int → Int → Option R) (s13 : (List Tree)) (s14 : Int) (s15 : Int) :
    f93.s0 L N self93 (k0_e1.bind j) (fun a0 => (k0_r a0).bind j) (fun a0 a1 a2 => (rec0 a0 a1 a2).bind j) s13 s14 s15 = (f93.s0 L N self93 k0_e1 k0_r rec0 s13 s14 s15).bind j := by
  unfold f93.s0
  exact f93.s0'_nat ..
theorem f93.l0_nat {R R' : Type} (j : R → Option R') (L N : Nat) (self93 : Tree → Option (Bool)) (k0_e1 : Option R) (k0_r : Bool → Option R) : ∀ (n : Nat) (s13 : (List Tree)) (s14 : Int) (s15 : Int),
    f93.l0 L N self93 (k0_e1.bind j) (fun a0 => (k0_r a0).bind j) n s13 s14 s15 = (f93.l0 L N self93 k0_e1 k0_r n s13 s14 s15).bind j := by
  intro n
  induction n with
  | zero => intros; rfl
  | succ n ih =>
    intro s13 s14 s15
    show f93.s0 L N self93 (k0_e1.bind j) (fun a0 => (k0_r a0).bind j) (f93.l0 L N self93 (k0_e1.bind j) (fun a0 => (k0_r a0).bind j) n) s13 s14 s15 = _
    rw [show f93.l0 L N self93 (k0_e1.bind j) (fun a0 => (k0_r a0).bind j) n = (fun s13 s14 s15 => (f93.l0 L N self93 k0_e1 k0_r n s13 s14 s15).bind j) from funext fun s13 => funext fun s14 => funext fun s15 => ih s13 s14 s15]
    exact f93.s0_nat ..
theorem f93.p0_e1'_nat {R R' : Type} (j : R → Option R') (L N : Nat) (self93 : Tree → Option (Bool)) (k : Bool → Option R) :
    f93.p0_e1' L N self93 (fun a0 => (k a0).bind j) = (f93.p0_e1' L N self93 k).bind j := by
  unfold f93.p0_e1'
  repeat' (first | (with_reducible refine cond_nat ?_ ?_) | (with_reducible refine bind_nat fun _ => ?_) | rfl)
theorem f93.p0_e1_nat {R R' : Type} (j : R → Option R') (L N : Nat) (self93 : Tree → Option (Bool)) (k : Bool → Option R) :
    f93.p0_e1 L N self93 (fun a0 => (k a0).bind j) = (f93.p0_e1 L N self93 k).bind j := by
  unfold f93.p0_e1
  exact f93.p0_e1'_nat ..
theorem f93.p0_r'_nat {R R' : Type} (j : R → Option R') (L N : Nat) (self93 : Tree → Option (Bool)) (k : Bool → Option R) (z17 : Bool) :
    f93.p0_r' L N self93 (fun a0 => (k a0).bind j) z17 = (f93.p0_r' L N self93 k z17).bind j := by
  unfold f93.p0_r'
  repeat' (first | (with_reducible refine cond_nat ?_ ?_) | (with_reducible refine bind_nat fun _ => ?_) | rfl)
theorem f93.p0_r_nat {R R' : Type} (j : R → Option R') (L N : Nat) (self93 : Tree → Option (Bool)) (k : Bool → Option R) (z17 : Bool) :
    f93.p0_r L N self93 (fun a0 => (k a0).bind j) z17 = (f93.p0_r L N self93 k z17).bind j := by
  unfold f93.p0_r
  exact f93.p0_r'_nat ..
theorem f93.j0'_nat {R R' : Type} (j : R → Option R') (L N : Nat) (self93 : Tree → Option (Bool)) (k : Bool → Option R) (w0 : (List Tree) → Int → Int → Option R) (v10 : Int) (v11 : Int) (v12 : (List Tree)) :
    f93.j0' L N self93 (fun a0 => (k a0).bind j) (fun a0 a1 a2 => (w0 a0 a1 a2).bind j) v10 v11 v12 = (f93.j0' L N self93 k w0 v10 v11 v12).bind j := by
  unfold f93.j0'
  repeat' (first | (with_reducible refine cond_nat ?_ ?_) | (with_reducible refine bind_nat fun _ => ?_) | rfl)
theorem f93.j1'_nat {R R' : Type} (j : R → Option R') (L N : Nat) (self93 : Tree → Option (Bool)) (k : Bool → Option R) (w0 : (List Tree) → Int → Int → Option R) (v0 : Int) (v1 : Int) (v2 : Int) (v3 : (List Tree)) :
    f93.j1' L N self93 (fun a0 => (k a0).bind j) (fun a0 a1 a2 => (w0 a0 a1 a2).bind j) v0 v1 v2 v3 = (f93.j1' L N self93 k w0 v0 v1 v2 v3).bind j := by
  unfold f93.j1'
  repeat' (first | (with_reducible refine cond_nat ?_ ?_) | (with_reducible refine bind_nat fun _ => ?_) | exact f93.j0'_nat .. | rfl)
theorem f93.b'_nat {R R' : Type} (j : R → Option R') (L N : Nat) (self93 : Tree → Option (Bool)) (k : Bool → Option R) (w0 : (List Tree) → Int → Int → Option R) (x0 : Tree) :
    f93.b' L N self93 (fun a0 => (k a0).bind j) (fun a0 a1 a2 => (w0 a0 a1 a2).bind j) x0 = (f93.b' L N self93 k w0 x0).bind j := by
  unfold f93.b'
  repeat' (first | (with_reducible refine cond_nat ?_ ?_) | (with_reducible refine bind_nat fun _ => ?_) | exact f93.j0'_nat .. | exact f93.j1'_nat .. | rfl)
theorem f93.b_nat {R R' : Type} (j : R → Option R') (L N : Nat) (self93 : Tree → Option (Bool)) (k : Bool → Option R) (x0 : Tree) :
    f93.b L N self93 (fun a0 => (k a0).bind j) x0 = (f93.b L N self93 k x0).bind j := by
  unfold f93.b
  simp only [f93.l0_nat, f93.p0_e1_nat, f93.p0_r_nat]
  exact f93.b'_nat ..
theorem f93.ok (L N m : Nat) (hΦ : TellsOk Try.prog (Φ93s L N m)) : EntOk Try.prog 93 (f93.ent L N (m + 1)) := by
  intro args vw site h
  unfold f93.ent
  split
  · rename_i d ha
    intro y hy hs
    refine call_ro (dep := 1000) (E := (E93 L N m)) (rs := (.one .bool)) (v := (.tv .bool y)) (sound_of hΦ) okP (callI_sound (sound_of hΦ) okP 1 2000) (f := Try.f93) rfl hs ha ?_ rfl site
    refine (f93.b_eq L N m some d.1).trans ?_
    refine ((f93.b_nat (fun y => (some (.tv .bool y) : Option AV)) L N (f93 L N m) some d.1)).trans ?_
    rw [show f93.b L N (f93 L N m) some d.1 = some y from hy]
    rfl
  · intro y hy
    cases hy
theorem Φ93s_ok (L N : Nat) : ∀ m, TellsOk Try.prog (Φ93s L N m) := by
  intro m
  induction m with
  | zero => exact (addT_ok (Φ92_ok L N) (fun args vw site h => by unfold f93.ent; split <;> (intro y hy; cases hy)))
  | succ m ih => exact (addT_ok (Φ92_ok L N) (f93.ok L N m ih))
def Φ93 (L N : Nat) : Tells := (addT (Φ92 L N) 93 (f93.ent L N N))
theorem Φ93_ok (L N : Nat) : TellsOk Try.prog (Φ93 L N) := Φ93s_ok L N N
def f50.b' {R : Type} (L N : Nat) (k : Bool → Option R) (x0 : Tree) : Option R :=
  (f92 L N N (Tree.mk x0.op x0.n x0.parts) (60 : Int)).bind fun y0 =>
  bif (decide (y0 ≤ (60 : Int))) then
    (f93 L N N (Tree.mk x0.op x0.n x0.parts)).bind fun y1 =>
    k y1
  else k false
def f50.b {R : Type} (L N : Nat) (k : Bool → Option R) (x0 : Tree) : Option R :=
  f50.b' L N k x0
def f50 (L N : Nat) (x0 : Tree) : Option (Bool) := f50.b L N some x0
def f50.ent (L N : Nat) (args : List AV) (vw : View) (site : Nat) : Ans := match roD [(.st 1)] vw args with
  | some d => ⟨Bool, f50 L N d.1, fun y => ((.tv .bool y), [], [])⟩
  | none => Ans.no
noncomputable def E50 (L N : Nat) : Env := { P := Try.prog, ty := tyOf, Φ := (Φ93 L N), inl := inlT, live := lives, liveX := livesX, L := L, dp := none, prom := promT, heal := healT, ren := renT }
theorem f50.b_pre {R : Type} (L N : Nat) (κ : AV → Option R) (x0 : Tree) :
    evBody (E50 L N) (evCallI (E50 L N) 1 2000) 1000 50 Try.f50 [(.tv (.st 1) x0)] [] [] (finC (.one .bool) κ)
    = f50.b' L N (fun a0 => κ (.tv .bool a0)) x0 := by kernel_rfl
theorem f50.b_eq {R : Type} (L N : Nat) (κ : AV → Option R) (x0 : Tree) :
    evBody (E50 L N) (evCallI (E50 L N) 1 2000) 1000 50 Try.f50 [(.tv (.st 1) x0)] [] [] (finC (.one .bool) κ)
    = f50.b L N (fun a0 => κ (.tv .bool a0)) x0 := by
  rw [f50.b_pre]
  unfold f50.b
  rfl
theorem f50.b'_nat {R R' : Type} (j : R → Option R') (L N : Nat) (k : Bool → Option R) (x0 : Tree) :
    f50.b' L N (fun a0 => (k a0).bind j) x0 = (f50.b' L N k x0).bind j := by
  unfold f50.b'
  repeat' (first | (with_reducible refine cond_nat ?_ ?_) | (with_reducible refine bind_nat fun _ => ?_) | rfl)
theorem f50.b_nat {R R' : Type} (j : R → Option R') (L N : Nat) (k : Bool → Option R) (x0 : Tree) :
    f50.b L N (fun a0 => (k a0).bind j) x0 = (f50.b L N k x0).bind j := by
  unfold f50.b
  exact f50.b'_nat ..
theorem f50.ok (L N : Nat) (hΦ : TellsOk Try.prog ((Φ93 L N))) : EntOk Try.prog 50 (f50.ent L N) := by
  intro args vw site h
  unfold f50.ent
  split
  · rename_i d ha
    intro y hy hs
    refine call_ro (dep := 1000) (E := (E50 L N)) (rs := (.one .bool)) (v := (.tv .bool y)) (sound_of hΦ) okP (callI_sound (sound_of hΦ) okP 1 2000) (f := Try.f50) rfl hs ha ?_ rfl site
    refine (f50.b_eq L N some d.1).trans ?_
    refine ((f50.b_nat (fun y => (some (.tv .bool y) : Option AV)) L N some d.1)).trans ?_
    rw [show f50.b L N some d.1 = some y from hy]
    rfl
  · intro y hy
    cases hy
def Φ50 (L N : Nat) : Tells := (addT (Φ93 L N) 50 (f50.ent L N))
theorem Φ50_ok (L N : Nat) : TellsOk Try.prog (Φ50 L N) := addT_ok (Φ93_ok L N) (f50.ok L N (Φ93_ok L N))
def f63.s0' {R : Type} (L N : Nat) (self63 : Graph → Tree → Option ((List Bool))) (k0_e0 : (List (List Move)) → Int → Int → (List Tree) → (List Bool) → (List (List Bool)) → Option R) (rec0 : (List Tree) → Int → Int → (List (List Move)) → Int → Int → (List Tree) → (List Bool) → (List (List Bool)) → Option R) (s0 : (List Tree)) (s1 : Int) (s2 : Int) (s3 : (List (List Move))) (s4 : Int) (s5 : Int) (s6 : (List Tree)) (s7 : (List Bool)) (s8 : (List (List Bool))) : Option R :=
  bif (decide (s2 < s1)) then
    bif (decide (0 ≤ s2) && decide (s2 < (s0.length : Int))) then
      (self63 (Graph.mk s3) (Tree.mk ((listAt s0 (Ty.dflt (.st 1)) s2.toNat).op) ((listAt s0 (Ty.dflt (.st 1)) s2.toNat).n) ((listAt s0 (Ty.dflt (.st 1)) s2.toNat).parts))).bind fun y15 =>
      bif (decide (s8.length + ([y15] : (List (List Bool))).length ≤ lim)) then
        rec0 s0 s1 (wi (s2 + (1 : Int))) s3 s4 s5 s6 s7 (s8 ++ ([y15] : (List (List Bool))))
      else none
    else none
  else k0_e0 s3 s4 s5 s6 s7 s8
def f63.s0 {R : Type} (L N : Nat) (self63 : Graph → Tree → Option ((List Bool))) (k0_e0 : (List (List Move)) → Int → Int → (List Tree) → (List Bool) → (List (List Bool)) → Option R) (rec0 : (List Tree) → Int → Int → (List (List Move)) → Int → Int → (List Tree) → (List Bool) → (List (List Bool)) → Option R) (s0 : (List Tree)) (s1 : Int) (s2 : Int) (s3 : (List (List Move))) (s4 : Int) (s5 : Int) (s6 : (List Tree)) (s7 : (List Bool)) (s8 : (List (List Bool))) : Option R :=
  f63.s0' L N self63 k0_e0 rec0 s0 s1 s2 s3 s4 s5 s6 s7 s8
def f63.l0 {R : Type} (L N : Nat) (self63 : Graph → Tree → Option ((List Bool))) (k0_e0 : (List (List Move)) → Int → Int → (List Tree) → (List Bool) → (List (List Bool)) → Option R) : Nat → (List Tree) → Int → Int → (List (List Move)) → Int → Int → (List Tree) → (List Bool) → (List (List Bool)) → Option R
  | 0, _, _, _, _, _, _, _, _, _ => none
  | n + 1, s0, s1, s2, s3, s4, s5, s6, s7, s8 => f63.s0 L N self63 k0_e0 (f63.l0 L N self63 k0_e0 n) s0 s1 s2 s3 s4 s5 s6 s7 s8
def f63.T0 (s0 : (List Tree)) (s1 : Int) (s2 : Int) (s3 : (List (List Move))) (s4 : Int) (s5 : Int) (s6 : (List Tree)) (s7 : (List Bool)) (s8 : (List (List Bool))) : T := mkT 110 [(2, (.ptr 1002 0)), (3, (.ptr 1003 0)), (5, (.row 1015)), (6, (.row 1016)), (18, (.tv (.sl (.st 1)) s0)), (19, (.tv i64 s1)), (20, (.tv i64 s2))]
def f63.H0 (s0 : (List Tree)) (s1 : Int) (s2 : Int) (s3 : (List (List Move))) (s4 : Int) (s5 : Int) (s6 : (List Tree)) (s7 : (List Bool)) (s8 : (List (List Bool))) : H := [(1002, (.box [(.tv (.sl (.sl (.st 0))) s3)])), (1003, (.box [(.tv i64 s4), (.tv i64 s5), (.tv (.sl (.st 1)) s6)])), (1015, (.row 4 .bool s7)), (1016, (.row 71 (.sl .bool) s8))]
def f63.T0_e0 (z9 : (List (List Move))) (z10 : Int) (z11 : Int) (z12 : (List Tree)) (z13 : (List Bool)) (z14 : (List (List Bool))) : T := mkT 110 [(2, (.ptr 1002 0)), (3, (.ptr 1003 0)), (5, (.row 1015)), (6, (.row 1016))]
def f63.H0_e0 (z9 : (List (List Move))) (z10 : Int) (z11 : Int) (z12 : (List Tree)) (z13 : (List Bool)) (z14 : (List (List Bool))) : H := [(1002, (.box [(.tv (.sl (.sl (.st 0))) z9)])), (1003, (.box [(.tv i64 z10), (.tv i64 z11), (.tv (.sl (.st 1)) z12)])), (1015, (.row 4 .bool z13)), (1016, (.row 71 (.sl .bool) z14))]
def f63.s2' {R : Type} (L N : Nat) (self63 : Graph → Tree → Option ((List Bool))) (k2_e5 : Int → Int → (List (List Move)) → Int → Int → (List Tree) → (List Bool) → (List (List Bool)) → Option R) (rec2 : Int → Int → Int → (List Move) → Int → Int → (List (List Move)) → Int → Int → (List Tree) → (List Bool) → (List (List Bool)) → Option R) (s25 : Int) (s26 : Int) (s27 : Int) (s28 : (List Move)) (s29 : Int) (s30 : Int) (s31 : (List (List Move))) (s32 : Int) (s33 : Int) (s34 : (List Tree)) (s35 : (List Bool)) (s36 : (List (List Bool))) : Option R :=
  bif (decide (s30 < s29)) then
    bif (decide (0 ≤ s30) && decide (s30 < (s28.length : Int))) then
      bif (decide (0 ≤ s25) && decide (s25 < (s35.length : Int))) then
        bif (listAt s35 false s25.toNat) then
          bif (decide (0 ≤ s25) && decide (s25 < (s35.length : Int))) then
            rec2 s25 s26 s27 s28 s29 (wi (s30 + (1 : Int))) s31 s32 s33 s34 (s35.set s25.toNat true) s36
          else none
        else bif ((listAt s28 (Ty.dflt (.st 0)) s30.toNat).act == s33) then
          bif (decide (0 ≤ (0 : Int)) && decide ((0 : Int) < (s36.length : Int))) then
            bif (decide (0 ≤ (listAt s28 (Ty.dflt (.st 0)) s30.toNat).to) && decide ((listAt s28 (Ty.dflt (.st 0)) s30.toNat).to < ((listAt s36 [] (0 : Int).toNat).length : Int))) then
              bif (decide (0 ≤ s25) && decide (s25 < (s35.length : Int))) then
                rec2 s25 s26 s27 s28 s29 (wi (s30 + (1 : Int))) s31 s32 s33 s34 (s35.set s25.toNat (listAt (listAt s36 [] (0 : Int).toNat) false ((listAt s28 (Ty.dflt (.st 0)) s30.toNat).to).toNat)) s36
              else none
            else none
          else none
        else bif (decide (0 ≤ s25) && decide (s25 < (s35.length : Int))) then
          rec2 s25 s26 s27 s28 s29 (wi (s30 + (1 : Int))) s31 s32 s33 s34 (s35.set s25.toNat false) s36
        else none
      else none
    else none
  else k2_e5 s26 s27 s31 s32 s33 s34 s35 s36
def f63.s2 {R : Type} (L N : Nat) (self63 : Graph → Tree → Option ((List Bool))) (k2_e5 : Int → Int → (List (List Move)) → Int → Int → (List Tree) → (List Bool) → (List (List Bool)) → Option R) (rec2 : Int → Int → Int → (List Move) → Int → Int → (List (List Move)) → Int → Int → (List Tree) → (List Bool) → (List (List Bool)) → Option R) (s25 : Int) (s26 : Int) (s27 : Int) (s28 : (List Move)) (s29 : Int) (s30 : Int) (s31 : (List (List Move))) (s32 : Int) (s33 : Int) (s34 : (List Tree)) (s35 : (List Bool)) (s36 : (List (List Bool))) : Option R :=
  f63.s2' L N self63 k2_e5 rec2 s25 s26 s27 s28 s29 s30 s31 s32 s33 s34 s35 s36
def f63.l2 {R : Type} (L N : Nat) (self63 : Graph → Tree → Option ((List Bool))) (k2_e5 : Int → Int → (List (List Move)) → Int → Int → (List Tree) → (List Bool) → (List (List Bool)) → Option R) : Nat → Int → Int → Int → (List Move) → Int → Int → (List (List Move)) → Int → Int → (List Tree) → (List Bool) → (List (List Bool)) → Option R
  | 0, _, _, _, _, _, _, _, _, _, _, _, _ => none
  | n + 1, s25, s26, s27, s28, s29, s30, s31, s32, s33, s34, s35, s36 => f63.s2 L N self63 k2_e5 (f63.l2 L N self63 k2_e5 n) s25 s26 s27 s28 s29 s30 s31 s32 s33 s34 s35 s36
def f63.T2 (s25 : Int) (s26 : Int) (s27 : Int) (s28 : (List Move)) (s29 : Int) (s30 : Int) (s31 : (List (List Move))) (s32 : Int) (s33 : Int) (s34 : (List Tree)) (s35 : (List Bool)) (s36 : (List (List Bool))) : T := mkT 110 [(2, (.ptr 1002 0)), (3, (.ptr 1003 0)), (5, (.row 1015)), (6, (.row 1016)), (9, (.tv i64 s25)), (32, (.tv i64 s26)), (33, (.tv i64 s27)), (42, (.tv (.sl (.st 0)) s28)), (43, (.tv i64 s29)), (44, (.tv i64 s30))]
def f63.H2 (s25 : Int) (s26 : Int) (s27 : Int) (s28 : (List Move)) (s29 : Int) (s30 : Int) (s31 : (List (List Move))) (s32 : Int) (s33 : Int) (s34 : (List Tree)) (s35 : (List Bool)) (s36 : (List (List Bool))) : H := [(1002, (.box [(.tv (.sl (.sl (.st 0))) s31)])), (1003, (.box [(.tv i64 s32), (.tv i64 s33), (.tv (.sl (.st 1)) s34)])), (1015, (.row 4 .bool s35)), (1016, (.row 71 (.sl .bool) s36))]
def f63.T2_e5 (z37 : Int) (z38 : Int) (z39 : (List (List Move))) (z40 : Int) (z41 : Int) (z42 : (List Tree)) (z43 : (List Bool)) (z44 : (List (List Bool))) : T := mkT 110 [(2, (.ptr 1002 0)), (3, (.ptr 1003 0)), (5, (.row 1015)), (6, (.row 1016)), (32, (.tv i64 z37)), (33, (.tv i64 z38))]
def f63.H2_e5 (z37 : Int) (z38 : Int) (z39 : (List (List Move))) (z40 : Int) (z41 : Int) (z42 : (List Tree)) (z43 : (List Bool)) (z44 : (List (List Bool))) : H := [(1002, (.box [(.tv (.sl (.sl (.st 0))) z39)])), (1003, (.box [(.tv i64 z40), (.tv i64 z41), (.tv (.sl (.st 1)) z42)])), (1015, (.row 4 .bool z43)), (1016, (.row 71 (.sl .bool) z44))]
def f63.p2_e5' {R : Type} (L N : Nat) (self63 : Graph → Tree → Option ((List Bool))) (k1_e2 : (List Bool) → Option R) (rec1 : Int → Int → (List (List Move)) → Int → Int → (List Tree) → (List Bool) → (List (List Bool)) → Option R) (z37 : Int) (z38 : Int) (z39 : (List (List Move))) (z40 : Int) (z41 : Int) (z42 : (List Tree)) (z43 : (List Bool)) (z44 : (List (List Bool))) : Option R :=
  rec1 z37 (wi (z38 + (1 : Int))) z39 z40 z41 z42 z43 z44
def f63.p2_e5 {R : Type} (L N : Nat) (self63 : Graph → Tree → Option ((List Bool))) (k1_e2 : (List Bool) → Option R) (rec1 : Int → Int → (List (List Move)) → Int → Int → (List Tree) → (List Bool) → (List (List Bool)) → Option R) (z37 : Int) (z38 : Int) (z39 : (List (List Move))) (z40 : Int) (z41 : Int) (z42 : (List Tree)) (z43 : (List Bool)) (z44 : (List (List Bool))) : Option R :=
  f63.p2_e5' L N self63 k1_e2 rec1 z37 z38 z39 z40 z41 z42 z43 z44
def f63.s1' {R : Type} (L N : Nat) (self63 : Graph → Tree → Option ((List Bool))) (k1_e2 : (List Bool) → Option R) (rec1 : Int → Int → (List (List Move)) → Int → Int → (List Tree) → (List Bool) → (List (List Bool)) → Option R) (w2 : Int → Int → Int → (List Move) → Int → Int → (List (List Move)) → Int → Int → (List Tree) → (List Bool) → (List (List Bool)) → Option R) (s16 : Int) (s17 : Int) (s18 : (List (List Move))) (s19 : Int) (s20 : Int) (s21 : (List Tree)) (s22 : (List Bool)) (s23 : (List (List Bool))) : Option R :=
  bif (decide (s17 < s16)) then
    bif (s19 == (0 : Int)) then
      bif (decide (0 ≤ s17) && decide (s17 < (s22.length : Int))) then
        rec1 s16 (wi (s17 + (1 : Int))) s18 s19 s20 s21 (s22.set s17.toNat true) s23
      else none
    else bif (s19 == (1 : Int)) then
      bif (decide (0 ≤ (0 : Int)) && decide ((0 : Int) < (s23.length : Int))) then
        bif (decide (0 ≤ s17) && decide (s17 < ((listAt s23 [] (0 : Int).toNat).length : Int))) then
          bif (decide (0 ≤ s17) && decide (s17 < (s22.length : Int))) then
            rec1 s16 (wi (s17 + (1 : Int))) s18 s19 s20 s21 (s22.set s17.toNat (!(listAt (listAt s23 [] (0 : Int).toNat) false s17.toNat))) s23
          else none
        else none
      else none
    else bif (s19 == (2 : Int)) then
      bif (decide (0 ≤ (0 : Int)) && decide ((0 : Int) < (s23.length : Int))) then
        bif (decide (0 ≤ s17) && decide (s17 < ((listAt s23 [] (0 : Int).toNat).length : Int))) then
          bif (listAt (listAt s23 [] (0 : Int).toNat) false s17.toNat) then
            bif (decide (0 ≤ (1 : Int)) && decide ((1 : Int) < (s23.length : Int))) then
              bif (decide (0 ≤ s17) && decide (s17 < ((listAt s23 [] (1 : Int).toNat).length : Int))) then
                bif (decide (0 ≤ s17) && decide (s17 < (s22.length : Int))) then
                  rec1 s16 (wi (s17 + (1 : Int))) s18 s19 s20 s21 (s22.set s17.toNat (listAt (listAt s23 [] (1 : Int).toNat) false s17.toNat)) s23
                else none
              else none
            else none
          else bif (decide (0 ≤ s17) && decide (s17 < (s22.length : Int))) then
            rec1 s16 (wi (s17 + (1 : Int))) s18 s19 s20 s21 (s22.set s17.toNat false) s23
          else none
        else none
      else none
    else bif (decide (0 ≤ s17) && decide (s17 < (s18.length : Int))) then
      w2 s17 s16 s17 (listAt s18 [] s17.toNat) ((listAt s18 [] s17.toNat).length : Int) (0 : Int) s18 s19 s20 s21 s22 s23
    else none
  else k1_e2 s22
def f63.s1 {R : Type} (L N : Nat) (self63 : Graph → Tree → Option ((List Bool))) (k1_e2 : (List Bool) → Option R) (rec1 : Int → Int → (List (List Move)) → Int → Int → (List Tree) → (List Bool) → (List (List Bool)) → Option R) (s16 : Int) (s17 : Int) (s18 : (List (List Move))) (s19 : Int) (s20 : Int) (s21 : (List Tree)) (s22 : (List Bool)) (s23 : (List (List Bool))) : Option R :=
  f63.s1' L N self63 k1_e2 rec1 (fun s25 s26 s27 s28 s29 s30 s31 s32 s33 s34 s35 s36 => f63.l2 L N self63 (fun z37 z38 z39 z40 z41 z42 z43 z44 => f63.p2_e5 L N self63 k1_e2 rec1 z37 z38 z39 z40 z41 z42 z43 z44) L s25 s26 s27 s28 s29 s30 s31 s32 s33 s34 s35 s36) s16 s17 s18 s19 s20 s21 s22 s23
def f63.l1 {R : Type} (L N : Nat) (self63 : Graph → Tree → Option ((List Bool))) (k1_e2 : (List Bool) → Option R) : Nat → Int → Int → (List (List Move)) → Int → Int → (List Tree) → (List Bool) → (List (List Bool)) → Option R
  | 0, _, _, _, _, _, _, _, _ => none
  | n + 1, s16, s17, s18, s19, s20, s21, s22, s23 => f63.s1 L N self63 k1_e2 (f63.l1 L N self63 k1_e2 n) s16 s17 s18 s19 s20 s21 s22 s23
def f63.T1 (s16 : Int) (s17 : Int) (s18 : (List (List Move))) (s19 : Int) (s20 : Int) (s21 : (List Tree)) (s22 : (List Bool)) (s23 : (List (List Bool))) : T := mkT 110 [(2, (.ptr 1002 0)), (3, (.ptr 1003 0)), (5, (.row 1015)), (6, (.row 1016)), (32, (.tv i64 s16)), (33, (.tv i64 s17))]
def f63.H1 (s16 : Int) (s17 : Int) (s18 : (List (List Move))) (s19 : Int) (s20 : Int) (s21 : (List Tree)) (s22 : (List Bool)) (s23 : (List (List Bool))) : H := [(1002, (.box [(.tv (.sl (.sl (.st 0))) s18)])), (1003, (.box [(.tv i64 s19), (.tv i64 s20), (.tv (.sl (.st 1)) s21)])), (1015, (.row 4 .bool s22)), (1016, (.row 71 (.sl .bool) s23))]
def f63.T1_e2 (z24 : (List Bool)) : T := mkT 110 [(5, (.row 1015))]
def f63.H1_e2 (z24 : (List Bool)) : H := [(1015, (.row 4 .bool z24))]
def f63.p1_e2' {R : Type} (L N : Nat) (self63 : Graph → Tree → Option ((List Bool))) (k : (List Bool) → Option R) (z24 : (List Bool)) : Option R :=
  k z24
def f63.p1_e2 {R : Type} (L N : Nat) (self63 : Graph → Tree → Option ((List Bool))) (k : (List Bool) → Option R) (z24 : (List Bool)) : Option R :=
  f63.p1_e2' L N self63 k z24
def f63.p0_e0' {R : Type} (L N : Nat) (self63 : Graph → Tree → Option ((List Bool))) (k : (List Bool) → Option R) (w1 : Int → Int → (List (List Move)) → Int → Int → (List Tree) → (List Bool) → (List (List Bool)) → Option R) (z9 : (List (List Move))) (z10 : Int) (z11 : Int) (z12 : (List Tree)) (z13 : (List Bool)) (z14 : (List (List Bool))) : Option R :=
  w1 (z13.length : Int) (0 : Int) z9 z10 z11 z12 z13 z14
def f63.p0_e0 {R : Type} (L N : Nat) (self63 : Graph → Tree → Option ((List Bool))) (k : (List Bool) → Option R) (z9 : (List (List Move))) (z10 : Int) (z11 : Int) (z12 : (List Tree)) (z13 : (List Bool)) (z14 : (List (List Bool))) : Option R :=
  f63.p0_e0' L N self63 k (fun s16 s17 s18 s19 s20 s21 s22 s23 => f63.l1 L N self63 (fun z24 => f63.p1_e2 L N self63 k z24) L s16 s17 s18 s19 s20 s21 s22 s23) z9 z10 z11 z12 z13 z14
def f63.b' {R : Type} (L N : Nat) (self63 : Graph → Tree → Option ((List Bool))) (k : (List Bool) → Option R) (w0 : (List Tree) → Int → Int → (List (List Move)) → Int → Int → (List Tree) → (List Bool) → (List (List Bool)) → Option R) (x0 : Graph) (x1 : Tree) : Option R :=
  bif (decide (0 ≤ (x0.moves.length : Int)) && decide ((x0.moves.length : Int) ≤ (lim : Int))) then
    w0 x1.parts (x1.parts.length : Int) (0 : Int) x0.moves x1.op x1.n x1.parts (List.replicate (x0.moves.length : Int).toNat false) ([] : (List (List Bool)))
  else none
def f63.b {R : Type} (L N : Nat) (self63 : Graph → Tree → Option ((List Bool))) (k : (List Bool) → Option R) (x0 : Graph) (x1 : Tree) : Option R :=
  f63.b' L N self63 k (fun s0 s1 s2 s3 s4 s5 s6 s7 s8 => f63.l0 L N self63 (fun z9 z10 z11 z12 z13 z14 => f63.p0_e0 L N self63 k z9 z10 z11 z12 z13 z14) L s0 s1 s2 s3 s4 s5 s6 s7 s8) x0 x1
def f63 (L N : Nat) : Nat → Graph → Tree → Option ((List Bool))
  | 0, _, _ => none
  | n + 1, x0, x1 => f63.b L N (f63 L N n) some x0 x1
def f63.ent (L N m : Nat) (args : List AV) (vw : View) (site : Nat) : Ans := match coeD [(.st 2), (.st 1)] vw args with
  | some (d, u) => ⟨(List Bool), f63 L N m d.1 d.2.1, fun y => ((.tv (.sl .bool) y), u, [])⟩
  | none => Ans.no
def Φ63s (L N m : Nat) : Tells := (addT (Φ50 L N) 63 (f63.ent L N m))
noncomputable def E63 (L N m : Nat) : Env := { P := Try.prog, ty := tyOf, Φ := Φ63s L N m, inl := inlT, live := lives, liveX := livesX, L := L, dp := none, prom := promT, heal := healT, ren := renT }
noncomputable def f63.c0 : Code := loopAt 0 (codeOf Try.f63)
theorem f63.s0_pre {R : Type} (L N m : Nat) (κ : Ex → T → H → Option R) (rec : T → H → Option R) (s0 : (List Tree)) (s1 : Int) (s2 : Int) (s3 : (List (List Move))) (s4 : Int) (s5 : Int) (s6 : (List Tree)) (s7 : (List Bool)) (s8 : (List (List Bool))) :
    evRd (E63 L N m) (evCallI (E63 L N m) 1 2000) 1000 63 110 0 f63.c0 κ rec (f63.T0 s0 s1 s2 s3 s4 s5 s6 s7 s8) (f63.H0 s0 s1 s2 s3 s4 s5 s6 s7 s8)
    = f63.s0' L N (f63 L N m) (fun z9 z10 z11 z12 z13 z14 => κ (.exit 0) (f63.T0_e0 z9 z10 z11 z12 z13 z14) (f63.H0_e0 z9 z10 z11 z12 z13 z14)) (fun s0 s1 s2 s3 s4 s5 s6 s7 s8 => rec (f63.T0 s0 s1 s2 s3 s4 s5 s6 s7 s8) (f63.H0 s0 s1 s2 s3 s4 s5 s6 s7 s8)) s0 s1 s2 s3 s4 s5 s6 s7 s8 := by kernel_rfl
theorem f63.s0_eq {R : Type} (L N m : Nat) (κ : Ex → T → H → Option R) (rec : T → H → Option R) (s0 : (List Tree)) (s1 : Int) (s2 : Int) (s3 : (List (List Move))) (s4 : Int) (s5 : Int) (s6 : (List Tree)) (s7 : (List Bool)) (s8 : (List (List Bool))) :
    evRd (E63 L N m) (evCallI (E63 L N m) 1 2000) 1000 63 110 0 f63.c0 κ rec (f63.T0 s0 s1 s2 s3 s4 s5 s6 s7 s8) (f63.H0 s0 s1 s2 s3 s4 s5 s6 s7 s8)
    = f63.s0 L N (f63 L N m) (fun z9 z10 z11 z12 z13 z14 => κ (.exit 0) (f63.T0_e0 z9 z10 z11 z12 z13 z14) (f63.H0_e0 z9 z10 z11 z12 z13 z14)) (fun s0 s1 s2 s3 s4 s5 s6 s7 s8 => rec (f63.T0 s0 s1 s2 s3 s4 s5 s6 s7 s8) (f63.H0 s0 s1 s2 s3 s4 s5 s6 s7 s8)) s0 s1 s2 s3 s4 s5 s6 s7 s8 := by
  rw [f63.s0_pre]
  unfold f63.s0
  rfl
theorem f63.l0_eq {R : Type} (L N m : Nat) (κ : Ex → T → H → Option R) : ∀ (n : Nat) (s0 : (List Tree)) (s1 : Int) (s2 : Int) (s3 : (List (List Move))) (s4 : Int) (s5 : Int) (s6 : (List Tree)) (s7 : (List Bool)) (s8 : (List (List Bool))),
    evLp (E63 L N m) (evCallI (E63 L N m) 1 2000) 1000 63 110 0 f63.c0 κ n (f63.T0 s0 s1 s2 s3 s4 s5 s6 s7 s8) (f63.H0 s0 s1 s2 s3 s4 s5 s6 s7 s8)
    = f63.l0 L N (f63 L N m) (fun z9 z10 z11 z12 z13 z14 => κ (.exit 0) (f63.T0_e0 z9 z10 z11 z12 z13 z14) (f63.H0_e0 z9 z10 z11 z12 z13 z14)) n s0 s1 s2 s3 s4 s5 s6 s7 s8 := by
  intro n
  induction n with
  | zero => intros; rfl
  | succ n ih =>
    intro s0 s1 s2 s3 s4 s5 s6 s7 s8
    rw [evLp_succ, f63.s0_eq]
    simp only [ih]
    rfl
noncomputable def f63.c1 : Code := loopAt 2 (codeOf Try.f63)
noncomputable def f63.c2 : Code := loopAt 5 f63.c1
theorem f63.s2_pre {R : Type} (L N m : Nat) (κ : Ex → T → H → Option R) (rec : T → H → Option R) (s25 : Int) (s26 : Int) (s27 : Int) (s28 : (List Move)) (s29 : Int) (s30 : Int) (s31 : (List (List Move))) (s32 : Int) (s33 : Int) (s34 : (List Tree)) (s35 : (List Bool)) (s36 : (List (List Bool))) :
    evRd (E63 L N m) (evCallI (E63 L N m) 1 2000) 1000 63 110 5 f63.c2 κ rec (f63.T2 s25 s26 s27 s28 s29 s30 s31 s32 s33 s34 s35 s36) (f63.H2 s25 s26 s27 s28 s29 s30 s31 s32 s33 s34 s35 s36)
    = f63.s2' L N (f63 L N m) (fun z37 z38 z39 z40 z41 z42 z43 z44 => κ (.exit 5) (f63.T2_e5 z37 z38 z39 z40 z41 z42 z43 z44) (f63.H2_e5 z37 z38 z39 z40 z41 z42 z43 z44)) (fun s25 s26 s27 s28 s29 s30 s31 s32 s33 s34 s35 s36 => rec (f63.T2 s25 s26 s27 s28 s29 s30 s31 s32 s33 s34 s35 s36) (f63.H2 s25 s26 s27 s28 s29 s30 s31 s32 s33 s34 s35 s36)) s25 s26 s27 s28 s29 s30 s31 s32 s33 s34 s35 s36 := by kernel_rfl
theorem f63.s2_eq {R : Type} (L N m : Nat) (κ : Ex → T → H → Option R) (rec : T → H → Option R) (s25 : Int) (s26 : Int) (s27 : Int) (s28 : (List Move)) (s29 : Int) (s30 : Int) (s31 : (List (List Move))) (s32 : Int) (s33 : Int) (s34 : (List Tree)) (s35 : (List Bool)) (s36 : (List (List Bool))) :
    evRd (E63 L N m) (evCallI (E63 L N m) 1 2000) 1000 63 110 5 f63.c2 κ rec (f63.T2 s25 s26 s27 s28 s29 s30 s31 s32 s33 s34 s35 s36) (f63.H2 s25 s26 s27 s28 s29 s30 s31 s32 s33 s34 s35 s36)
    = f63.s2 L N (f63 L N m) (fun z37 z38 z39 z40 z41 z42 z43 z44 => κ (.exit 5) (f63.T2_e5 z37 z38 z39 z40 z41 z42 z43 z44) (f63.H2_e5 z37 z38 z39 z40 z41 z42 z43 z44)) (fun s25 s26 s27 s28 s29 s30 s31 s32 s33 s34 s35 s36 => rec (f63.T2 s25 s26 s27 s28 s29 s30 s31 s32 s33 s34 s35 s36) (f63.H2 s25 s26 s27 s28 s29 s30 s31 s32 s33 s34 s35 s36)) s25 s26 s27 s28 s29 s30 s31 s32 s33 s34 s35 s36 := by
  rw [f63.s2_pre]
  unfold f63.s2
  rfl
theorem f63.l2_eq {R : Type} (L N m : Nat) (κ : Ex → T → H → Option R) : ∀ (n : Nat) (s25 : Int) (s26 : Int) (s27 : Int) (s28 : (List Move)) (s29 : Int) (s30 : Int) (s31 : (List (List Move))) (s32 : Int) (s33 : Int) (s34 : (List Tree)) (s35 : (List Bool)) (s36 : (List (List Bool))),
    evLp (E63 L N m) (evCallI (E63 L N m) 1 2000) 1000 63 110 5 f63.c2 κ n (f63.T2 s25 s26 s27 s28 s29 s30 s31 s32 s33 s34 s35 s36) (f63.H2 s25 s26 s27 s28 s29 s30 s31 s32 s33 s34 s35 s36)
    = f63.l2 L N (f63 L N m) (fun z37 z38 z39 z40 z41 z42 z43 z44 => κ (.exit 5) (f63.T2_e5 z37 z38 z39 z40 z41 z42 z43 z44) (f63.H2_e5 z37 z38 z39 z40 z41 z42 z43 z44)) n s25 s26 s27 s28 s29 s30 s31 s32 s33 s34 s35 s36 := by
  intro n
  induction n with
  | zero => intros; rfl
  | succ n ih =>
    intro s25 s26 s27 s28 s29 s30 s31 s32 s33 s34 s35 s36
    rw [evLp_succ, f63.s2_eq]
    simp only [ih]
    rfl
theorem f63.p2_e5_pre {R : Type} (L N m : Nat) (κ : Ex → T → H → Option R) (rec : T → H → Option R) (z37 : Int) (z38 : Int) (z39 : (List (List Move))) (z40 : Int) (z41 : Int) (z42 : (List Tree)) (z43 : (List Bool)) (z44 : (List (List Bool))) :
    (contAt (E63 L N m) (evCallI (E63 L N m) 1 2000) 1000 63 110 5 f63.c1 (stepK (outK (keepT 110 ((E63 L N m).liveX 63 2).1) (keepH 1000 ((E63 L N m).liveX 63 2).2) κ) fun t h => rec (backK 1000 110 ((E63 L N m).live 63 2).1 ((E63 L N m).live 63 2).2 ((E63 L N m).heal 63 2) ((E63 L N m).ren 63 2) t h).1 (backK 1000 110 ((E63 L N m).live 63 2).1 ((E63 L N m).live 63 2).2 ((E63 L N m).heal 63 2) ((E63 L N m).ren 63 2) t h).2)) (.exit 5) (f63.T2_e5 z37 z38 z39 z40 z41 z42 z43 z44) (f63.H2_e5 z37 z38 z39 z40 z41 z42 z43 z44)
    = f63.p2_e5' L N (f63 L N m) (fun z24 => κ (.exit 2) (f63.T1_e2 z24) (f63.H1_e2 z24)) (fun s16 s17 s18 s19 s20 s21 s22 s23 => rec (f63.T1 s16 s17 s18 s19 s20 s21 s22 s23) (f63.H1 s16 s17 s18 s19 s20 s21 s22 s23)) z37 z38 z39 z40 z41 z42 z43 z44 := by kernel_rfl
theorem f63.p2_e5_eq {R : Type} (L N m : Nat) (κ : Ex → T → H → Option R) (rec : T → H → Option R) (z37 : Int) (z38 : Int) (z39 : (List (List Move))) (z40 : Int) (z41 : Int) (z42 : (List Tree)) (z43 : (List Bool)) (z44 : (List (List Bool))) :
    (contAt (E63 L N m) (evCallI (E63 L N m) 1 2000) 1000 63 110 5 f63.c1 (stepK (outK (keepT 110 ((E63 L N m).liveX 63 2).1) (keepH 1000 ((E63 L N m).liveX 63 2).2) κ) fun t h => rec (backK 1000 110 ((E63 L N m).live 63 2).1 ((E63 L N m).live 63 2).2 ((E63 L N m).heal 63 2) ((E63 L N m).ren 63 2) t h).1 (backK 1000 110 ((E63 L N m).live 63 2).1 ((E63 L N m).live 63 2).2 ((E63 L N m).heal 63 2) ((E63 L N m).ren 63 2) t h).2)) (.exit 5) (f63.T2_e5 z37 z38 z39 z40 z41 z42 z43 z44) (f63.H2_e5 z37 z38 z39 z40 z41 z42 z43 z44)
    = f63.p2_e5 L N (f63 L N m) (fun z24 => κ (.exit 2) (f63.T1_e2 z24) (f63.H1_e2 z24)) (fun s16 s17 s18 s19 s20 s21 s22 s23 => rec (f63.T1 s16 s17 s18 s19 s20 s21 s22 s23) (f63.H1 s16 s17 s18 s19 s20 s21 s22 s23)) z37 z38 z39 z40 z41 z42 z43 z44 := by
  rw [f63.p2_e5_pre]
  unfold f63.p2_e5
  rfl
theorem f63.s1_pre {R : Type} (L N m : Nat) (κ : Ex → T → H → Option R) (rec : T → H → Option R) (s16 : Int) (s17 : Int) (s18 : (List (List Move))) (s19 : Int) (s20 : Int) (s21 : (List Tree)) (s22 : (List Bool)) (s23 : (List (List Bool))) :
    evRd (E63 L N m) (evCallI (E63 L N m) 1 2000) 1000 63 110 2 f63.c1 κ rec (f63.T1 s16 s17 s18 s19 s20 s21 s22 s23) (f63.H1 s16 s17 s18 s19 s20 s21 s22 s23)
    = f63.s1' L N (f63 L N m) (fun z24 => κ (.exit 2) (f63.T1_e2 z24) (f63.H1_e2 z24)) (fun s16 s17 s18 s19 s20 s21 s22 s23 => rec (f63.T1 s16 s17 s18 s19 s20 s21 s22 s23) (f63.H1 s16 s17 s18 s19 s20 s21 s22 s23)) (fun s25 s26 s27 s28 s29 s30 s31 s32 s33 s34 s35 s36 => evLp (E63 L N m) (evCallI (E63 L N m) 1 2000) 1000 63 110 5 f63.c2 (contAt (E63 L N m) (evCallI (E63 L N m) 1 2000) 1000 63 110 5 f63.c1 (stepK (outK (keepT 110 ((E63 L N m).liveX 63 2).1) (keepH 1000 ((E63 L N m).liveX 63 2).2) κ) fun t h => rec (backK 1000 110 ((E63 L N m).live 63 2).1 ((E63 L N m).live 63 2).2 ((E63 L N m).heal 63 2) ((E63 L N m).ren 63 2) t h).1 (backK 1000 110 ((E63 L N m).live 63 2).1 ((E63 L N m).live 63 2).2 ((E63 L N m).heal 63 2) ((E63 L N m).ren 63 2) t h).2)) L (f63.T2 s25 s26 s27 s28 s29 s30 s31 s32 s33 s34 s35 s36) (f63.H2 s25 s26 s27 s28 s29 s30 s31 s32 s33 s34 s35 s36)) s16 s17 s18 s19 s20 s21 s22 s23 := by kernel_rfl
theorem f63.s1_eq {R : Type} (L N m : Nat) (κ : Ex → T → H → Option R) (rec : T → H → Option R) (s16 : Int) (s17 : Int) (s18 : (List (List Move))) (s19 : Int) (s20 : Int) (s21 : (List Tree)) (s22 : (List Bool)) (s23 : (List (List Bool))) :
    evRd (E63 L N m) (evCallI (E63 L N m) 1 2000) 1000 63 110 2 f63.c1 κ rec (f63.T1 s16 s17 s18 s19 s20 s21 s22 s23) (f63.H1 s16 s17 s18 s19 s20 s21 s22 s23)
    = f63.s1 L N (f63 L N m) (fun z24 => κ (.exit 2) (f63.T1_e2 z24) (f63.H1_e2 z24)) (fun s16 s17 s18 s19 s20 s21 s22 s23 => rec (f63.T1 s16 s17 s18 s19 s20 s21 s22 s23) (f63.H1 s16 s17 s18 s19 s20 s21 s22 s23)) s16 s17 s18 s19 s20 s21 s22 s23 := by
  rw [f63.s1_pre]
  unfold f63.s1
  simp only [f63.l2_eq, f63.p2_e5_eq]
theorem f63.l1_eq {R : Type} (L N m : Nat) (κ : Ex → T → H → Option R) : ∀ (n : Nat) (s16 : Int) (s17 : Int) (s18 : (List (List Move))) (s19 : Int) (s20 : Int) (s21 : (List Tree)) (s22 : (List Bool)) (s23 : (List (List Bool))),
    evLp (E63 L N m) (evCallI (E63 L N m) 1 2000) 1000 63 110 2 f63.c1 κ n (f63.T1 s16 s17 s18 s19 s20 s21 s22 s23) (f63.H1 s16 s17 s18 s19 s20 s21 s22 s23)
    = f63.l1 L N (f63 L N m) (fun z24 => κ (.exit 2) (f63.T1_e2 z24) (f63.H1_e2 z24)) n s16 s17 s18 s19 s20 s21 s22 s23 := by
  intro n
  induction n with
  | zero => intros; rfl
  | succ n ih =>
    intro s16 s17 s18 s19 s20 s21 s22 s23
    rw [evLp_succ, f63.s1_eq]
    simp only [ih]
    rfl
theorem f63.p1_e2_pre {R : Type} (L N m : Nat) (κ : AV → Option R) (z24 : (List Bool)) :
    (contAt (E63 L N m) (evCallI (E63 L N m) 1 2000) 1000 63 110 2 (codeOf Try.f63) (finK (E63 L N m) 1000 Try.f63 (finC (.one (.sl .bool)) κ))) (.exit 2) (f63.T1_e2 z24) (f63.H1_e2 z24)
    = f63.p1_e2' L N (f63 L N m) (fun a0 => κ (.tv (.sl .bool) a0)) z24 := by kernel_rfl
theorem f63.p1_e2_eq {R : Type} (L N m : Nat) (κ : AV → Option R) (z24 : (List Bool)) :
    (contAt (E63 L N m) (evCallI (E63 L N m) 1 2000) 1000 63 110 2 (codeOf Try.f63) (finK (E63 L N m) 1000 Try.f63 (finC (.one (.sl .bool)) κ))) (.exit 2) (f63.T1_e2 z24) (f63.H1_e2 z24)
    = f63.p1_e2 L N (f63 L N m) (fun a0 => κ (.tv (.sl .bool) a0)) z24 := by
  rw [f63.p1_e2_pre]
  unfold f63.p1_e2
  rfl
theorem f63.p0_e0_pre {R : Type} (L N m : Nat) (κ : AV → Option R) (z9 : (List (List Move))) (z10 : Int) (z11 : Int) (z12 : (List Tree)) (z13 : (List Bool)) (z14 : (List (List Bool))) :
    (contAt (E63 L N m) (evCallI (E63 L N m) 1 2000) 1000 63 110 0 (codeOf Try.f63) (finK (E63 L N m) 1000 Try.f63 (finC (.one (.sl .bool)) κ))) (.exit 0) (f63.T0_e0 z9 z10 z11 z12 z13 z14) (f63.H0_e0 z9 z10 z11 z12 z13 z14)
    = f63.p0_e0' L N (f63 L N m) (fun a0 => κ (.tv (.sl .bool) a0)) (fun s16 s17 s18 s19 s20 s21 s22 s23 => evLp (E63 L N m) (evCallI (E63 L N m) 1 2000) 1000 63 110 2 f63.c1 (contAt (E63 L N m) (evCallI (E63 L N m) 1 2000) 1000 63 110 2 (codeOf Try.f63) (finK (E63 L N m) 1000 Try.f63 (finC (.one (.sl .bool)) κ))) L (f63.T1 s16 s17 s18 s19 s20 s21 s22 s23) (f63.H1 s16 s17 s18 s19 s20 s21 s22 s23)) z9 z10 z11 z12 z13 z14 := by kernel_rfl
theorem f63.p0_e0_eq {R : Type} (L N m : Nat) (κ : AV → Option R) (z9 : (List (List Move))) (z10 : Int) (z11 : Int) (z12 : (List Tree)) (z13 : (List Bool)) (z14 : (List (List Bool))) :
    (contAt (E63 L N m) (evCallI (E63 L N m) 1 2000) 1000 63 110 0 (codeOf Try.f63) (finK (E63 L N m) 1000 Try.f63 (finC (.one (.sl .bool)) κ))) (.exit 0) (f63.T0_e0 z9 z10 z11 z12 z13 z14) (f63.H0_e0 z9 z10 z11 z12 z13 z14)
    = f63.p0_e0 L N (f63 L N m) (fun a0 => κ (.tv (.sl .bool) a0)) z9 z10 z11 z12 z13 z14 := by
  rw [f63.p0_e0_pre]
  unfold f63.p0_e0
  simp only [f63.l1_eq, f63.p1_e2_eq]
theorem f63.b_pre {R : Type} (L N m : Nat) (κ : AV → Option R) (x0 : Graph) (x1 : Tree) :
    evBody (E63 L N m) (evCallI (E63 L N m) 1 2000) 1000 63 Try.f63 [(.tv (.st 2) x0), (.tv (.st 1) x1)] [] [] (finC (.one (.sl .bool)) κ)
    = f63.b' L N (f63 L N m) (fun a0 => κ (.tv (.sl .bool) a0)) (fun s0 s1 s2 s3 s4 s5 s6 s7 s8 => evLp (E63 L N m) (evCallI (E63 L N m) 1 2000) 1000 63 110 0 f63.c0 (contAt (E63 L N m) (evCallI (E63 L N m) 1 2000) 1000 63 110 0 (codeOf Try.f63) (finK (E63 L N m) 1000 Try.f63 (finC (.one (.sl .bool)) κ))) L (f63.T0 s0 s1 s2 s3 s4 s5 s6 s7 s8) (f63.H0 s0 s1 s2 s3 s4 s5 s6 s7 s8)) x0 x1 := by kernel_rfl
theorem f63.b_eq {R : Type} (L N m : Nat) (κ : AV → Option R) (x0 : Graph) (x1 : Tree) :
    evBody (E63 L N m) (evCallI (E63 L N m) 1 2000) 1000 63 Try.f63 [(.tv (.st 2) x0), (.tv (.st 1) x1)] [] [] (finC (.one (.sl .bool)) κ)
    = f63.b L N (f63 L N m) (fun a0 => κ (.tv (.sl .bool) a0)) x0 x1 := by
  rw [f63.b_pre]
  unfold f63.b
  simp only [f63.l0_eq, f63.p0_e0_eq]
theorem f63.s0'_nat {R R' : Type} (j : R → Option R') (L N : Nat) (self63 : Graph → Tree → Option ((List Bool))) (k0_e0 : (List (List Move)) → Int → Int → (List Tree) → (List Bool) → (List (List Bool)) → Option R) (rec0 : (List Tree) → Int → Int → (List (List Move)) → Int → Int → (List Tree) → (List Bool) → (List (List Bool)) → Option R) (s0 : (List Tree)) (s1 : Int) (s2 : Int) (s3 : (List (List Move))) (s4 : Int) (s5 : Int) (s6 : (List Tree)) (s7 : (List Bool)) (s8 : (List (List Bool))) :
    f63.s0' L N self63 (fun a0 a1 a2 a3 a4 a5 => (k0_e0 a0 a1 a2 a3 a4 a5).bind j) (fun a0 a1 a2 a3 a4 a5 a6 a7 a8 => (rec0 a0 a1 a2 a3 a4 a5 a6 a7 a8).bind j) s0 s1 s2 s3 s4 s5 s6 s7 s8 = (f63.s0' L N self63 k0_e0 rec0 s0 s1 s2 s3 s4 s5 s6 s7 s8).bind j := by
  unfold f63.s0'
  repeat' (first | (with_reducible refine cond_nat ?_ ?_) | (with_reducible refine bind_nat fun _ => ?_) | rfl)
theorem f63.s0_nat {R R' : Type} (j : R → Option R') (L N : Nat) (self63 : Graph → Tree → Option ((List Bool))) (k0_e0 : (List (List Move)) → Int → Int → (List Tree) → (List Bool) → (List (List Bool)) → Option R) (rec0 : (List Tree) → Int → Int → (List (List Move)) → Int → Int → (List Tree) → (List Bool) → (List (List Bool)) → Option R) (s0 : (List Tree)) (s1 : Int) (s2 : Int) (s3 : (List (List Move))) (s4 : Int) (s5 : Int) (s6 : (List Tree)) (s7 : (List Bool)) (s8 : (List (List Bool))) :
    f63.s0 L N self63 (fun a0 a1 a2 a3 a4 a5 => (k0_e0 a0 a1 a2 a3 a4 a5).bind j) (fun a0 a1 a2 a3 a4 a5 a6 a7 a8 => (rec0 a0 a1 a2 a3 a4 a5 a6 a7 a8).bind j) s0 s1 s2 s3 s4 s5 s6 s7 s8 = (f63.s0 L N self63 k0_e0 rec0 s0 s1 s2 s3 s4 s5 s6 s7 s8).bind j := by
  unfold f63.s0
  exact f63.s0'_nat ..
theorem f63.l0_nat {R R' : Type} (j : R → Option R') (L N : Nat) (self63 : Graph → Tree → Option ((List Bool))) (k0_e0 : (List (List Move)) → Int → Int → (List Tree) → (List Bool) → (List (List Bool)) → Option R) : ∀ (n : Nat) (s0 : (List Tree)) (s1 : Int) (s2 : Int) (s3 : (List (List Move))) (s4 : Int) (s5 : Int) (s6 : (List Tree)) (s7 : (List Bool)) (s8 : (List (List Bool))),
    f63.l0 L N self63 (fun a0 a1 a2 a3 a4 a5 => (k0_e0 a0 a1 a2 a3 a4 a5).bind j) n s0 s1 s2 s3 s4 s5 s6 s7 s8 = (f63.l0 L N self63 k0_e0 n s0 s1 s2 s3 s4 s5 s6 s7 s8).bind j := by
  intro n
  induction n with
  | zero => intros; rfl
  | succ n ih =>
    intro s0 s1 s2 s3 s4 s5 s6 s7 s8
    show f63.s0 L N self63 (fun a0 a1 a2 a3 a4 a5 => (k0_e0 a0 a1 a2 a3 a4 a5).bind j) (f63.l0 L N self63 (fun a0 a1 a2 a3 a4 a5 => (k0_e0 a0 a1 a2 a3 a4 a5).bind j) n) s0 s1 s2 s3 s4 s5 s6 s7 s8 = _
    rw [show f63.l0 L N self63 (fun a0 a1 a2 a3 a4 a5 => (k0_e0 a0 a1 a2 a3 a4 a5).bind j) n = (fun s0 s1 s2 s3 s4 s5 s6 s7 s8 => (f63.l0 L N self63 k0_e0 n s0 s1 s2 s3 s4 s5 s6 s7 s8).bind j) from funext fun s0 => funext fun s1 => funext fun s2 => funext fun s3 => funext fun s4 => funext fun s5 => funext fun s6 => funext fun s7 => funext fun s8 => ih s0 s1 s2 s3 s4 s5 s6 s7 s8]
    exact f63.s0_nat ..
theorem f63.s2'_nat {R R' : Type} (j : R → Option R') (L N : Nat) (self63 : Graph → Tree → Option ((List Bool))) (k2_e5 : Int → Int → (List (List Move)) → Int → Int → (List Tree) → (List Bool) → (List (List Bool)) → Option R) (rec2 : Int → Int → Int → (List Move) → Int → Int → (List (List Move)) → Int → Int → (List Tree) → (List Bool) → (List (List Bool)) → Option R) (s25 : Int) (s26 : Int) (s27 : Int) (s28 : (List Move)) (s29 : Int) (s30 : Int) (s31 : (List (List Move))) (s32 : Int) (s33 : Int) (s34 : (List Tree)) (s35 : (List Bool)) (s36 : (List (List Bool))) :
    f63.s2' L N self63 (fun a0 a1 a2 a3 a4 a5 a6 a7 => (k2_e5 a0 a1 a2 a3 a4 a5 a6 a7).bind j) (fun a0 a1 a2 a3 a4 a5 a6 a7 a8 a9 a10 a11 => (rec2 a0 a1 a2 a3 a4 a5 a6 a7 a8 a9 a10 a11).bind j) s25 s26 s27 s28 s29 s30 s31 s32 s33 s34 s35 s36 = (f63.s2' L N self63 k2_e5 rec2 s25 s26 s27 s28 s29 s30 s31 s32 s33 s34 s35 s36).bind j := by
  unfold f63.s2'
  repeat' (first | (with_reducible refine cond_nat ?_ ?_) | (with_reducible refine bind_nat fun _ => ?_) | rfl)
theorem f63.s2_nat {R R' : Type} (j : R → Option R') (L N : Nat) (self63 : Graph → Tree → Option ((List Bool))) (k2_e5 : Int → Int → (List (List Move)) → Int → Int → (List Tree) → (List Bool) → (List (List Bool)) → Option R) (rec2 : Int → Int → Int → (List Move) → Int → Int → (List (List Move)) → Int → Int → (List Tree) → (List Bool) → (List (List Bool)) → Option R) (s25 : Int) (s26 : Int) (s27 : Int) (s28 : (List Move)) (s29 : Int) (s30 : Int) (s31 : (List (List Move))) (s32 : Int) (s33 : Int) (s34 : (List Tree)) (s35 : (List Bool)) (s36 : (List (List Bool))) :
    f63.s2 L N self63 (fun a0 a1 a2 a3 a4 a5 a6 a7 => (k2_e5 a0 a1 a2 a3 a4 a5 a6 a7).bind j) (fun a0 a1 a2 a3 a4 a5 a6 a7 a8 a9 a10 a11 => (rec2 a0 a1 a2 a3 a4 a5 a6 a7 a8 a9 a10 a11).bind j) s25 s26 s27 s28 s29 s30 s31 s32 s33 s34 s35 s36 = (f63.s2 L N self63 k2_e5 rec2 s25 s26 s27 s28 s29 s30 s31 s32 s33 s34 s35 s36).bind j := by
  unfold f63.s2
  exact f63.s2'_nat ..
theorem f63.l2_nat {R R' : Type} (j : R → Option R') (L N : Nat) (self63 : Graph → Tree → Option ((List Bool))) (k2_e5 : Int → Int → (List (List Move)) → Int → Int → (List Tree) → (List Bool) → (List (List Bool)) → Option R) : ∀ (n : Nat) (s25 : Int) (s26 : Int) (s27 : Int) (s28 : (List Move)) (s29 : Int) (s30 : Int) (s31 : (List (List Move))) (s32 : Int) (s33 : Int) (s34 : (List Tree)) (s35 : (List Bool)) (s36 : (List (List Bool))),
    f63.l2 L N self63 (fun a0 a1 a2 a3 a4 a5 a6 a7 => (k2_e5 a0 a1 a2 a3 a4 a5 a6 a7).bind j) n s25 s26 s27 s28 s29 s30 s31 s32 s33 s34 s35 s36 = (f63.l2 L N self63 k2_e5 n s25 s26 s27 s28 s29 s30 s31 s32 s33 s34 s35 s36).bind j := by
  intro n
  induction n with
  | zero => intros; rfl
  | succ n ih =>
    intro s25 s26 s27 s28 s29 s30 s31 s32 s33 s34 s35 s36
    show f63.s2 L N self63 (fun a0 a1 a2 a3 a4 a5 a6 a7 => (k2_e5 a0 a1 a2 a3 a4 a5 a6 a7).bind j) (f63.l2 L N self63 (fun a0 a1 a2 a3 a4 a5 a6 a7 => (k2_e5 a0 a1 a2 a3 a4 a5 a6 a7).bind j) n) s25 s26 s27 s28 s29 s30 s31 s32 s33 s34 s35 s36 = _
    rw [show f63.l2 L N self63 (fun a0 a1 a2 a3 a4 a5 a6 a7 => (k2_e5 a0 a1 a2 a3 a4 a5 a6 a7).bind j) n = (fun s25 s26 s27 s28 s29 s30 s31 s32 s33 s34 s35 s36 => (f63.l2 L N self63 k2_e5 n s25 s26 s27 s28 s29 s30 s31 s32 s33 s34 s35 s36).bind j) from funext fun s25 => funext fun s26 => funext fun s27 => funext fun s28 => funext fun s29 => funext fun s30 => funext fun s31 => funext fun s32 => funext fun s33 => funext fun s34 => funext fun s35 => funext fun s36 => ih s25 s26 s27 s28 s29 s30 s31 s32 s33 s34 s35 s36]
    exact f63.s2_nat ..
theorem f63.p2_e5'_nat {R R' : Type} (j : R → Option R') (L N : Nat) (self63 : Graph → Tree → Option ((List Bool))) (k1_e2 : (List Bool) → Option R) (rec1 : Int → Int → (List (List Move)) → Int → Int → (List Tree) → (List Bool) → (List (List Bool)) → Option R) (z37 : Int) (z38 : Int) (z39 : (List (List Move))) (z40 : Int) (z41 : Int) (z42 : (List Tree)) (z43 : (List Bool)) (z44 : (List (List Bool))) :
    f63.p2_e5' L N self63 (fun a0 => (k1_e2 a0).bind j) (fun a0 a1 a2 a3 a4 a5 a6 a7 => (rec1 a0 a1 a2 a3 a4 a5 a6 a7).bind j) z37 z38 z39 z40 z41 z42 z43 z44 = (f63.p2_e5' L N self63 k1_e2 rec1 z37 z38 z39 z40 z41 z42 z43 z44).bind j := by
  unfold f63.p2_e5'
  repeat' (first | (with_reducible refine cond_nat ?_ ?_) | (with_reducible refine bind_nat fun _ => ?_) | rfl)
theorem f63.p2_e5_nat {R R' : Type} (j : R → Option R') (L N : Nat) (self63 : Graph → Tree → Option ((List Bool))) (k1_e2 : (List Bool) → Option R) (rec1 : Int → Int → (List (List Move)) → Int → Int → (List Tree) → (List Bool) → (List (List Bool)) → Option R) (z37 : Int) (z38 : Int) (z39 : (List (List Move))) (z40 : Int) (z41 : Int) (z42 : (List Tree)) (z43 : (List Bool)) (z44 : (List (List Bool))) :
    f63.p2_e5 L N self63 (fun a0 => (k1_e2 a0).bind j) (fun a0 a1 a2 a3 a4 a5 a6 a7 => (rec1 a0 a1 a2 a3 a4 a5 a6 a7).bind j) z37 z38 z39 z40 z41 z42 z43 z44 = (f63.p2_e5 L N self63 k1_e2 rec1 z37 z38 z39 z40 z41 z42 z43 z44).bind j := by
  unfold f63.p2_e5
  exact f63.p2_e5'_nat ..
theorem f63.s1'_nat {R R' : Type} (j : R → Option R') (L N : Nat) (self63 : Graph → Tree → Option ((List Bool))) (k1_e2 : (List Bool) → Option R) (rec1 : Int → Int → (List (List Move)) → Int → Int → (List Tree) → (List Bool) → (List (List Bool)) → Option R) (w2 : Int → Int → Int → (List Move) → Int → Int → (List (List Move)) → Int → Int → (List Tree) → (List Bool) → (List (List Bool)) → Option R) (s16 : Int) (s17 : Int) (s18 : (List (List Move))) (s19 : Int) (s20 : Int) (s21 : (List Tree)) (s22 : (List Bool)) (s23 : (List (List Bool))) :
    f63.s1' L N self63 (fun a0 => (k1_e2 a0).bind j) (fun a0 a1 a2 a3 a4 a5 a6 a7 => (rec1 a0 a1 a2 a3 a4 a5 a6 a7).bind j) (fun a0 a1 a2 a3 a4 a5 a6 a7 a8 a9 a10 a11 => (w2 a0 a1 a2 a3 a4 a5 a6 a7 a8 a9 a10 a11).bind j) s16 s17 s18 s19 s20 s21 s22 s23 = (f63.s1' L N self63 k1_e2 rec1 w2 s16 s17 s18 s19 s20 s21 s22 s23).bind j := by
  unfold f63.s1'
  repeat' (first | (with_reducible refine cond_nat ?_ ?_) | (with_reducible refine bind_nat fun _ => ?_) | rfl)
theorem f63.s1_nat {R R' : Type} (j : R → Option R') (L N : Nat) (self63 : Graph → Tree → Option ((List Bool))) (k1_e2 : (List Bool) → Option R) (rec1 : Int → Int → (List (List Move)) → Int → Int → (List Tree) → (List Bool) → (List (List Bool)) → Option R) (s16 : Int) (s17 : Int) (s18 : (List (List Move))) (s19 : Int) (s20 : Int) (s21 : (List Tree)) (s22 : (List Bool)) (s23 : (List (List Bool))) :
    f63.s1 L N self63 (fun a0 => (k1_e2 a0).bind j) (fun a0 a1 a2 a3 a4 a5 a6 a7 => (rec1 a0 a1 a2 a3 a4 a5 a6 a7).bind j) s16 s17 s18 s19 s20 s21 s22 s23 = (f63.s1 L N self63 k1_e2 rec1 s16 s17 s18 s19 s20 s21 s22 s23).bind j := by
  unfold f63.s1
  simp only [f63.l2_nat, f63.p2_e5_nat]
  exact f63.s1'_nat ..
theorem f63.l1_nat {R R' : Type} (j : R → Option R') (L N : Nat) (self63 : Graph → Tree → Option ((List Bool))) (k1_e2 : (List Bool) → Option R) : ∀ (n : Nat) (s16 : Int) (s17 : Int) (s18 : (List (List Move))) (s19 : Int) (s20 : Int) (s21 : (List Tree)) (s22 : (List Bool)) (s23 : (List (List Bool))),
    f63.l1 L N self63 (fun a0 => (k1_e2 a0).bind j) n s16 s17 s18 s19 s20 s21 s22 s23 = (f63.l1 L N self63 k1_e2 n s16 s17 s18 s19 s20 s21 s22 s23).bind j := by
  intro n
  induction n with
  | zero => intros; rfl
  | succ n ih =>
    intro s16 s17 s18 s19 s20 s21 s22 s23
    show f63.s1 L N self63 (fun a0 => (k1_e2 a0).bind j) (f63.l1 L N self63 (fun a0 => (k1_e2 a0).bind j) n) s16 s17 s18 s19 s20 s21 s22 s23 = _
    rw [show f63.l1 L N self63 (fun a0 => (k1_e2 a0).bind j) n = (fun s16 s17 s18 s19 s20 s21 s22 s23 => (f63.l1 L N self63 k1_e2 n s16 s17 s18 s19 s20 s21 s22 s23).bind j) from funext fun s16 => funext fun s17 => funext fun s18 => funext fun s19 => funext fun s20 => funext fun s21 => funext fun s22 => funext fun s23 => ih s16 s17 s18 s19 s20 s21 s22 s23]
    exact f63.s1_nat ..
theorem f63.p1_e2'_nat {R R' : Type} (j : R → Option R') (L N : Nat) (self63 : Graph → Tree → Option ((List Bool))) (k : (List Bool) → Option R) (z24 : (List Bool)) :
    f63.p1_e2' L N self63 (fun a0 => (k a0).bind j) z24 = (f63.p1_e2' L N self63 k z24).bind j := by
  unfold f63.p1_e2'
  repeat' (first | (with_reducible refine cond_nat ?_ ?_) | (with_reducible refine bind_nat fun _ => ?_) | rfl)
theorem f63.p1_e2_nat {R R' : Type} (j : R → Option R') (L N : Nat) (self63 : Graph → Tree → Option ((List Bool))) (k : (List Bool) → Option R) (z24 : (List Bool)) :
    f63.p1_e2 L N self63 (fun a0 => (k a0).bind j) z24 = (f63.p1_e2 L N self63 k z24).bind j := by
  unfold f63.p1_e2
  exact f63.p1_e2'_nat ..
theorem f63.p0_e0'_nat {R R' : Type} (j : R → Option R') (L N : Nat) (self63 : Graph → Tree → Option ((List Bool))) (k : (List Bool) → Option R) (w1 : Int → Int → (List (List Move)) → Int → Int → (List Tree) → (List Bool) → (List (List Bool)) → Option R) (z9 : (List (List Move))) (z10 : Int) (z11 : Int) (z12 : (List Tree)) (z13 : (List Bool)) (z14 : (List (List Bool))) :
    f63.p0_e0' L N self63 (fun a0 => (k a0).bind j) (fun a0 a1 a2 a3 a4 a5 a6 a7 => (w1 a0 a1 a2 a3 a4 a5 a6 a7).bind j) z9 z10 z11 z12 z13 z14 = (f63.p0_e0' L N self63 k w1 z9 z10 z11 z12 z13 z14).bind j := by
  unfold f63.p0_e0'
  repeat' (first | (with_reducible refine cond_nat ?_ ?_) | (with_reducible refine bind_nat fun _ => ?_) | rfl)
theorem f63.p0_e0_nat {R R' : Type} (j : R → Option R') (L N : Nat) (self63 : Graph → Tree → Option ((List Bool))) (k : (List Bool) → Option R) (z9 : (List (List Move))) (z10 : Int) (z11 : Int) (z12 : (List Tree)) (z13 : (List Bool)) (z14 : (List (List Bool))) :
    f63.p0_e0 L N self63 (fun a0 => (k a0).bind j) z9 z10 z11 z12 z13 z14 = (f63.p0_e0 L N self63 k z9 z10 z11 z12 z13 z14).bind j := by
  unfold f63.p0_e0
  simp only [f63.l1_nat, f63.p1_e2_nat]
  exact f63.p0_e0'_nat ..
theorem f63.b'_nat {R R' : Type} (j : R → Option R') (L N : Nat) (self63 : Graph → Tree → Option ((List Bool))) (k : (List Bool) → Option R) (w0 : (List Tree) → Int → Int → (List (List Move)) → Int → Int → (List Tree) → (List Bool) → (List (List Bool)) → Option R) (x0 : Graph) (x1 : Tree) :
    f63.b' L N self63 (fun a0 => (k a0).bind j) (fun a0 a1 a2 a3 a4 a5 a6 a7 a8 => (w0 a0 a1 a2 a3 a4 a5 a6 a7 a8).bind j) x0 x1 = (f63.b' L N self63 k w0 x0 x1).bind j := by
  unfold f63.b'
  repeat' (first | (with_reducible refine cond_nat ?_ ?_) | (with_reducible refine bind_nat fun _ => ?_) | rfl)
theorem f63.b_nat {R R' : Type} (j : R → Option R') (L N : Nat) (self63 : Graph → Tree → Option ((List Bool))) (k : (List Bool) → Option R) (x0 : Graph) (x1 : Tree) :
    f63.b L N self63 (fun a0 => (k a0).bind j) x0 x1 = (f63.b L N self63 k x0 x1).bind j := by
  unfold f63.b
  simp only [f63.l0_nat, f63.p0_e0_nat]
  exact f63.b'_nat ..
theorem f63.ok (L N m : Nat) (hΦ : TellsOk Try.prog (Φ63s L N m)) : EntOk Try.prog 63 (f63.ent L N (m + 1)) := by
  intro args vw site h
  unfold f63.ent
  split
  · rename_i d u ha
    intro y hy hs
    refine call_data (dep := 1000) (E := (E63 L N m)) (rs := (.one (.sl .bool))) (v' := (.tv (.sl .bool) y)) (sound_of hΦ) okP (callI_sound (sound_of hΦ) okP 1 2000) (f := Try.f63) rfl hs ha ?_ site
    refine (f63.b_eq L N m some d.1 d.2.1).trans ?_
    refine ((f63.b_nat (fun y => (some (.tv (.sl .bool) y) : Option AV)) L N (f63 L N m) some d.1 d.2.1)).trans ?_
    rw [show f63.b L N (f63 L N m) some d.1 d.2.1 = some y from hy]
    rfl
  · intro y hy
    cases hy
theorem Φ63s_ok (L N : Nat) : ∀ m, TellsOk Try.prog (Φ63s L N m) := by
  intro m
  induction m with
  | zero => exact (addT_ok (Φ50_ok L N) (fun args vw site h => by unfold f63.ent; split <;> (intro y hy; cases hy)))
  | succ m ih => exact (addT_ok (Φ50_ok L N) (f63.ok L N m ih))
def Φ63 (L N : Nat) : Tells := (addT (Φ50 L N) 63 (f63.ent L N N))
theorem Φ63_ok (L N : Nat) : TellsOk Try.prog (Φ63 L N) := Φ63s_ok L N N
def f20.s0' {R : Type} (L N : Nat) (k0_e0 : (List Int) → Option R) (rec0 : (List Bool) → Int → Int → (List Int) → Option R) (s14 : (List Bool)) (s15 : Int) (s16 : Int) (s17 : (List Int)) : Option R :=
  bif (decide (s16 < s15)) then
    bif (decide (0 ≤ s16) && decide (s16 < (s14.length : Int))) then
      bif (listAt s14 false s16.toNat) then
        bif (decide (s17.length + ([s16] : (List Int)).length ≤ lim)) then
          rec0 s14 s15 (wi (s16 + (1 : Int))) (s17 ++ ([s16] : (List Int)))
        else none
      else rec0 s14 s15 (wi (s16 + (1 : Int))) s17
    else none
  else k0_e0 s17
def f20.s0 {R : Type} (L N : Nat) (k0_e0 : (List Int) → Option R) (rec0 : (List Bool) → Int → Int → (List Int) → Option R) (s14 : (List Bool)) (s15 : Int) (s16 : Int) (s17 : (List Int)) : Option R :=
  f20.s0' L N k0_e0 rec0 s14 s15 s16 s17
def f20.l0 {R : Type} (L N : Nat) (k0_e0 : (List Int) → Option R) : Nat → (List Bool) → Int → Int → (List Int) → Option R
  | 0, _, _, _, _ => none
  | n + 1, s14, s15, s16, s17 => f20.s0 L N k0_e0 (f20.l0 L N k0_e0 n) s14 s15 s16 s17
def f20.T0 (s14 : (List Bool)) (s15 : Int) (s16 : Int) (s17 : (List Int)) : T := mkT 34 [(5, (.row 1008)), (20, (.tv (.sl .bool) s14)), (21, (.tv i64 s15)), (22, (.tv i64 s16))]
def f20.H0 (s14 : (List Bool)) (s15 : Int) (s16 : Int) (s17 : (List Int)) : H := [(1008, (.row 3 i64 s17))]
def f20.T0_e0 (z18 : (List Int)) : T := mkT 34 [(5, (.row 1008))]
def f20.H0_e0 (z18 : (List Int)) : H := [(1008, (.row 3 i64 z18))]
def f20.p0_e0' {R : Type} (L N : Nat) (k : (List Int) → Option R) (z18 : (List Int)) : Option R :=
  k z18
def f20.p0_e0 {R : Type} (L N : Nat) (k : (List Int) → Option R) (z18 : (List Int)) : Option R :=
  f20.p0_e0' L N k z18
def f20.j0' {R : Type} (L N : Nat) (k : (List Int) → Option R) (w0 : (List Bool) → Int → Int → (List Int) → Option R) (v8 : (List (List Move))) (v9 : Int) (v10 : Int) (v11 : (List Tree)) (v12 : (List Int)) : Option R :=
  (f63 L N N (Graph.mk v8) (Tree.mk v9 v10 v11)).bind fun y13 =>
  w0 y13 (y13.length : Int) (0 : Int) v12
def f20.b' {R : Type} (L N : Nat) (k : (List Int) → Option R) (w0 : (List Bool) → Int → Int → (List Int) → Option R) (x0 : Graph) (x1 : Tree) : Option R :=
  (f32 L N (Graph.mk x0.moves)).bind fun y0 =>
  bif (!y0) then
    k ([] : (List Int))
  else (f50 L N (Tree.mk x1.op x1.n x1.parts)).bind fun y1 =>
  bif (!y1) then
    k ([] : (List Int))
  else f20.j0' L N k w0 x0.moves x1.op x1.n x1.parts ([] : (List Int))
def f20.b {R : Type} (L N : Nat) (k : (List Int) → Option R) (x0 : Graph) (x1 : Tree) : Option R :=
  f20.b' L N k (fun s14 s15 s16 s17 => f20.l0 L N (fun z18 => f20.p0_e0 L N k z18) L s14 s15 s16 s17) x0 x1
def f20 (L N : Nat) (x0 : Graph) (x1 : Tree) : Option ((List Int)) := f20.b L N some x0 x1
def f20.ent (L N : Nat) (args : List AV) (vw : View) (site : Nat) : Ans := match roD [(.st 2), (.st 1)] vw args with
  | some d => ⟨(List Int), f20 L N d.1 d.2.1, fun y => (RN.av site .row (), [(site, some (mkO none 3 i64 y))], [])⟩
  | none => Ans.no
noncomputable def E20 (L N : Nat) : Env := { P := Try.prog, ty := tyOf, Φ := (Φ63 L N), inl := inlT, live := lives, liveX := livesX, L := L, dp := none, prom := promT, heal := healT, ren := renT }
noncomputable def f20.c0 : Code := loopAt 0 (codeOf Try.f20)
theorem f20.s0_pre {R : Type} (L N : Nat) (κ : Ex → T → H → Option R) (rec : T → H → Option R) (s14 : (List Bool)) (s15 : Int) (s16 : Int) (s17 : (List Int)) :
    evRd (E20 L N) (evCallI (E20 L N) 1 2000) 1000 20 34 0 f20.c0 κ rec (f20.T0 s14 s15 s16 s17) (f20.H0 s14 s15 s16 s17)
    = f20.s0' L N (fun z18 => κ (.exit 0) (f20.T0_e0 z18) (f20.H0_e0 z18)) (fun s14 s15 s16 s17 => rec (f20.T0 s14 s15 s16 s17) (f20.H0 s14 s15 s16 s17)) s14 s15 s16 s17 := by kernel_rfl
theorem f20.s0_eq {R : Type} (L N : Nat) (κ : Ex → T → H → Option R) (rec : T → H → Option R) (s14 : (List Bool)) (s15 : Int) (s16 : Int) (s17 : (List Int)) :
    evRd (E20 L N) (evCallI (E20 L N) 1 2000) 1000 20 34 0 f20.c0 κ rec (f20.T0 s14 s15 s16 s17) (f20.H0 s14 s15 s16 s17)
    = f20.s0 L N (fun z18 => κ (.exit 0) (f20.T0_e0 z18) (f20.H0_e0 z18)) (fun s14 s15 s16 s17 => rec (f20.T0 s14 s15 s16 s17) (f20.H0 s14 s15 s16 s17)) s14 s15 s16 s17 := by
  rw [f20.s0_pre]
  unfold f20.s0
  rfl
theorem f20.l0_eq {R : Type} (L N : Nat) (κ : Ex → T → H → Option R) : ∀ (n : Nat) (s14 : (List Bool)) (s15 : Int) (s16 : Int) (s17 : (List Int)),
    evLp (E20 L N) (evCallI (E20 L N) 1 2000) 1000 20 34 0 f20.c0 κ n (f20.T0 s14 s15 s16 s17) (f20.H0 s14 s15 s16 s17)
    = f20.l0 L N (fun z18 => κ (.exit 0) (f20.T0_e0 z18) (f20.H0_e0 z18)) n s14 s15 s16 s17 := by
  intro n
  induction n with
  | zero => intros; rfl
  | succ n ih =>
    intro s14 s15 s16 s17
    rw [evLp_succ, f20.s0_eq]
    simp only [ih]
    rfl
theorem f20.p0_e0_pre {R : Type} (L N : Nat) (κ : RN.Den .row → List Int → Option R) (z18 : (List Int)) :
    (contAt (E20 L N) (evCallI (E20 L N) 1 2000) 1000 20 34 0 (codeOf Try.f20) (finK (E20 L N) 1000 Try.f20 (finN .row none 3 i64 κ))) (.exit 0) (f20.T0_e0 z18) (f20.H0_e0 z18)
    = f20.p0_e0' L N (fun a0 => κ () a0) z18 := by kernel_rfl
theorem f20.p0_e0_eq {R : Type} (L N : Nat) (κ : RN.Den .row → List Int → Option R) (z18 : (List Int)) :
    (contAt (E20 L N) (evCallI (E20 L N) 1 2000) 1000 20 34 0 (codeOf Try.f20) (finK (E20 L N) 1000 Try.f20 (finN .row none 3 i64 κ))) (.exit 0) (f20.T0_e0 z18) (f20.H0_e0 z18)
    = f20.p0_e0 L N (fun a0 => κ () a0) z18 := by
  rw [f20.p0_e0_pre]
  unfold f20.p0_e0
  rfl
theorem f20.b_pre {R : Type} (L N : Nat) (κ : RN.Den .row → List Int → Option R) (x0 : Graph) (x1 : Tree) :
    evBody (E20 L N) (evCallI (E20 L N) 1 2000) 1000 20 Try.f20 [(.tv (.st 2) x0), (.tv (.st 1) x1)] [] [] (finN .row none 3 i64 κ)
    = f20.b' L N (fun a0 => κ () a0) (fun s14 s15 s16 s17 => evLp (E20 L N) (evCallI (E20 L N) 1 2000) 1000 20 34 0 f20.c0 (contAt (E20 L N) (evCallI (E20 L N) 1 2000) 1000 20 34 0 (codeOf Try.f20) (finK (E20 L N) 1000 Try.f20 (finN .row none 3 i64 κ))) L (f20.T0 s14 s15 s16 s17) (f20.H0 s14 s15 s16 s17)) x0 x1 := by kernel_rfl
theorem f20.b_eq {R : Type} (L N : Nat) (κ : RN.Den .row → List Int → Option R) (x0 : Graph) (x1 : Tree) :
    evBody (E20 L N) (evCallI (E20 L N) 1 2000) 1000 20 Try.f20 [(.tv (.st 2) x0), (.tv (.st 1) x1)] [] [] (finN .row none 3 i64 κ)
    = f20.b L N (fun a0 => κ () a0) x0 x1 := by
  rw [f20.b_pre]
  unfold f20.b
  simp only [f20.l0_eq, f20.p0_e0_eq]
theorem f20.s0'_nat {R R' : Type} (j : R → Option R') (L N : Nat) (k0_e0 : (List Int) → Option R) (rec0 : (List Bool) → Int → Int → (List Int) → Option R) (s14 : (List Bool)) (s15 : Int) (s16 : Int) (s17 : (List Int)) :
    f20.s0' L N (fun a0 => (k0_e0 a0).bind j) (fun a0 a1 a2 a3 => (rec0 a0 a1 a2 a3).bind j) s14 s15 s16 s17 = (f20.s0' L N k0_e0 rec0 s14 s15 s16 s17).bind j := by
  unfold f20.s0'
  repeat' (first | (with_reducible refine cond_nat ?_ ?_) | (with_reducible refine bind_nat fun _ => ?_) | rfl)
theorem f20.s0_nat {R R' : Type} (j : R → Option R') (L N : Nat) (k0_e0 : (List Int) → Option R) (rec0 : (List Bool) → Int → Int → (List Int) → Option R) (s14 : (List Bool)) (s15 : Int) (s16 : Int) (s17 : (List Int)) :
    f20.s0 L N (fun a0 => (k0_e0 a0).bind j) (fun a0 a1 a2 a3 => (rec0 a0 a1 a2 a3).bind j) s14 s15 s16 s17 = (f20.s0 L N k0_e0 rec0 s14 s15 s16 s17).bind j := by
  unfold f20.s0
  exact f20.s0'_nat ..
theorem f20.l0_nat {R R' : Type} (j : R → Option R') (L N : Nat) (k0_e0 : (List Int) → Option R) : ∀ (n : Nat) (s14 : (List Bool)) (s15 : Int) (s16 : Int) (s17 : (List Int)),
    f20.l0 L N (fun a0 => (k0_e0 a0).bind j) n s14 s15 s16 s17 = (f20.l0 L N k0_e0 n s14 s15 s16 s17).bind j := by
  intro n
  induction n with
  | zero => intros; rfl
  | succ n ih =>
    intro s14 s15 s16 s17
    show f20.s0 L N (fun a0 => (k0_e0 a0).bind j) (f20.l0 L N (fun a0 => (k0_e0 a0).bind j) n) s14 s15 s16 s17 = _
    rw [show f20.l0 L N (fun a0 => (k0_e0 a0).bind j) n = (fun s14 s15 s16 s17 => (f20.l0 L N k0_e0 n s14 s15 s16 s17).bind j) from funext fun s14 => funext fun s15 => funext fun s16 => funext fun s17 => ih s14 s15 s16 s17]
    exact f20.s0_nat ..
theorem f20.p0_e0'_nat {R R' : Type} (j : R → Option R') (L N : Nat) (k : (List Int) → Option R) (z18 : (List Int)) :
    f20.p0_e0' L N (fun a0 => (k a0).bind j) z18 = (f20.p0_e0' L N k z18).bind j := by
  unfold f20.p0_e0'
  repeat' (first | (with_reducible refine cond_nat ?_ ?_) | (with_reducible refine bind_nat fun _ => ?_) | rfl)
theorem f20.p0_e0_nat {R R' : Type} (j : R → Option R') (L N : Nat) (k : (List Int) → Option R) (z18 : (List Int)) :
    f20.p0_e0 L N (fun a0 => (k a0).bind j) z18 = (f20.p0_e0 L N k z18).bind j := by
  unfold f20.p0_e0
  exact f20.p0_e0'_nat ..
theorem f20.j0'_nat {R R' : Type} (j : R → Option R') (L N : Nat) (k : (List Int) → Option R) (w0 : (List Bool) → Int → Int → (List Int) → Option R) (v8 : (List (List Move))) (v9 : Int) (v10 : Int) (v11 : (List Tree)) (v12 : (List Int)) :
    f20.j0' L N (fun a0 => (k a0).bind j) (fun a0 a1 a2 a3 => (w0 a0 a1 a2 a3).bind j) v8 v9 v10 v11 v12 = (f20.j0' L N k w0 v8 v9 v10 v11 v12).bind j := by
  unfold f20.j0'
  repeat' (first | (with_reducible refine cond_nat ?_ ?_) | (with_reducible refine bind_nat fun _ => ?_) | rfl)
theorem f20.b'_nat {R R' : Type} (j : R → Option R') (L N : Nat) (k : (List Int) → Option R) (w0 : (List Bool) → Int → Int → (List Int) → Option R) (x0 : Graph) (x1 : Tree) :
    f20.b' L N (fun a0 => (k a0).bind j) (fun a0 a1 a2 a3 => (w0 a0 a1 a2 a3).bind j) x0 x1 = (f20.b' L N k w0 x0 x1).bind j := by
  unfold f20.b'
  repeat' (first | (with_reducible refine cond_nat ?_ ?_) | (with_reducible refine bind_nat fun _ => ?_) | exact f20.j0'_nat .. | rfl)
theorem f20.b_nat {R R' : Type} (j : R → Option R') (L N : Nat) (k : (List Int) → Option R) (x0 : Graph) (x1 : Tree) :
    f20.b L N (fun a0 => (k a0).bind j) x0 x1 = (f20.b L N k x0 x1).bind j := by
  unfold f20.b
  simp only [f20.l0_nat, f20.p0_e0_nat]
  exact f20.b'_nat ..
theorem f20.ok (L N : Nat) (hΦ : TellsOk Try.prog ((Φ63 L N))) : EntOk Try.prog 20 (f20.ent L N) := by
  intro args vw site h
  unfold f20.ent
  split
  · rename_i d ha
    intro y hy hs
    refine call_ron (dep := 1000) (E := (E20 L N)) (ts := [(.st 2), (.st 1)]) (rn := .row) (q := none) (el := 3) (ty := i64) (d1 := ()) (xs := y) (sound_of hΦ) okP (callI_sound (sound_of hΦ) okP 1 2000) (f := Try.f20) rfl hs ha ?_ rfl site
    refine (f20.b_eq L N (fun d xs => some (d, xs)) d.1 d.2.1).trans ?_
    refine ((f20.b_nat (fun y => (some ((), y) : Option (RN.Den .row × List Int))) L N some d.1 d.2.1)).trans ?_
    rw [show f20.b L N some d.1 d.2.1 = some y from hy]
    rfl
  · intro y hy
    cases hy
def Φ20 (L N : Nat) : Tells := (addT (Φ63 L N) 20 (f20.ent L N))
theorem Φ20_ok (L N : Nat) : TellsOk Try.prog (Φ20 L N) := addT_ok (Φ63_ok L N) (f20.ok L N (Φ63_ok L N))
def f21.s0' {R : Type} (L N : Nat) (k0_e0 : Option R) (k0_r : Bool → Option R) (rec0 : (List Int) → (List Int) → Int → Option R) (s0 : (List Int)) (s1 : (List Int)) (s2 : Int) : Option R :=
  bif (decide (s2 < (s0.length : Int))) then
    bif (decide (0 ≤ s2) && decide (s2 < (s0.length : Int))) then
      bif (decide (0 ≤ s2) && decide (s2 < (s1.length : Int))) then
        bif ((listAt s0 (0 : Int) s2.toNat) != (listAt s1 (0 : Int) s2.toNat)) then
          k0_r false
        else rec0 s0 s1 (wi (s2 + (1 : Int)))
      else none
    else none
  else k0_e0
def f21.s0 {R : Type} (L N : Nat) (k0_e0 : Option R) (k0_r : Bool → Option R) (rec0 : (List Int) → (List Int) → Int → Option R) (s0 : (List Int)) (s1 : (List Int)) (s2 : Int) : Option R :=
  f21.s0' L N k0_e0 k0_r rec0 s0 s1 s2
def f21.l0 {R : Type} (L N : Nat) (k0_e0 : Option R) (k0_r : Bool → Option R) : Nat → (List Int) → (List Int) → Int → Option R
  | 0, _, _, _ => none
  | n + 1, s0, s1, s2 => f21.s0 L N k0_e0 k0_r (f21.l0 L N k0_e0 k0_r n) s0 s1 s2
def f21.T0 (s0 : (List Int)) (s1 : (List Int)) (s2 : Int) : T := mkT 26 [(0, (.tv (.sl i64) s0)), (1, (.tv (.sl i64) s1)), (5, (.tv i64 s2))]
def f21.H0 (s0 : (List Int)) (s1 : (List Int)) (s2 : Int) : H := []
def f21.T0_e0 : T := mkT 26 []
def f21.H0_e0 : H := []
def f21.T0_r (z3 : Bool) : T := mkT 26 [(4, (.tv .bool z3))]
def f21.H0_r (z3 : Bool) : H := []
def f21.p0_e0' {R : Type} (L N : Nat) (k : Bool → Option R) : Option R :=
  k true
def f21.p0_e0 {R : Type} (L N : Nat) (k : Bool → Option R) : Option R :=
  f21.p0_e0' L N k
def f21.p0_r' {R : Type} (L N : Nat) (k : Bool → Option R) (z3 : Bool) : Option R :=
  k z3
def f21.p0_r {R : Type} (L N : Nat) (k : Bool → Option R) (z3 : Bool) : Option R :=
  f21.p0_r' L N k z3
def f21.b' {R : Type} (L N : Nat) (k : Bool → Option R) (w0 : (List Int) → (List Int) → Int → Option R) (x0 : (List Int)) (x1 : (List Int)) : Option R :=
  bif ((x0.length : Int) != (x1.length : Int)) then
    k false
  else w0 x0 x1 (0 : Int)
def f21.b {R : Type} (L N : Nat) (k : Bool → Option R) (x0 : (List Int)) (x1 : (List Int)) : Option R :=
  f21.b' L N k (fun s0 s1 s2 => f21.l0 L N (f21.p0_e0 L N k) (fun z3 => f21.p0_r L N k z3) L s0 s1 s2) x0 x1
def f21 (L N : Nat) (x0 : (List Int)) (x1 : (List Int)) : Option (Bool) := f21.b L N some x0 x1
def f21.ent (L N : Nat) (args : List AV) (vw : View) (site : Nat) : Ans := match roD [(.sl i64), (.sl i64)] vw args with
  | some d => ⟨Bool, f21 L N d.1 d.2.1, fun y => ((.tv .bool y), [], [])⟩
  | none => Ans.no
noncomputable def E21 (L N : Nat) : Env := { P := Try.prog, ty := tyOf, Φ := (Φ20 L N), inl := inlT, live := lives, liveX := livesX, L := L, dp := none, prom := promT, heal := healT, ren := renT }
noncomputable def f21.c0 : Code := loopAt 0 (codeOf Try.f21)
theorem f21.s0_pre {R : Type} (L N : Nat) (κ : Ex → T → H → Option R) (rec : T → H → Option R) (s0 : (List Int)) (s1 : (List Int)) (s2 : Int) :
    evRd (E21 L N) (evCallI (E21 L N) 1 2000) 1000 21 26 0 f21.c0 κ rec (f21.T0 s0 s1 s2) (f21.H0 s0 s1 s2)
    = f21.s0' L N (κ (.exit 0) f21.T0_e0 f21.H0_e0) (fun z3 => κ .ret (f21.T0_r z3) (f21.H0_r z3)) (fun s0 s1 s2 => rec (f21.T0 s0 s1 s2) (f21.H0 s0 s1 s2)) s0 s1 s2 := by kernel_rfl
theorem f21.s0_eq {R : Type} (L N : Nat) (κ : Ex → T → H → Option R) (rec : T → H → Option R) (s0 : (List Int)) (s1 : (List Int)) (s2 : Int) :
    evRd (E21 L N) (evCallI (E21 L N) 1 2000) 1000 21 26 0 f21.c0 κ rec (f21.T0 s0 s1 s2) (f21.H0 s0 s1 s2)
    = f21.s0 L N (κ (.exit 0) f21.T0_e0 f21.H0_e0) (fun z3 => κ .ret (f21.T0_r z3) (f21.H0_r z3)) (fun s0 s1 s2 => rec (f21.T0 s0 s1 s2) (f21.H0 s0 s1 s2)) s0 s1 s2 := by
  rw [f21.s0_pre]
  unfold f21.s0
  rfl
theorem f21.l0_eq {R : Type} (L N : Nat) (κ : Ex → T → H → Option R) : ∀ (n : Nat) (s0 : (List Int)) (s1 : (List Int)) (s2 : Int),
    evLp (E21 L N) (evCallI (E21 L N) 1 2000) 1000 21 26 0 f21.c0 κ n (f21.T0 s0 s1 s2) (f21.H0 s0 s1 s2)
    = f21.l0 L N (κ (.exit 0) f21.T0_e0 f21.H0_e0) (fun z3 => κ .ret (f21.T0_r z3) (f21.H0_r z3)) n s0 s1 s2 := by
  intro n
  induction n with
  | zero => intros; rfl
  | succ n ih =>
    intro s0 s1 s2
    rw [evLp_succ, f21.s0_eq]
    simp only [ih]
    rfl
theorem f21.p0_e0_pre {R : Type} (L N : Nat) (κ : AV → Option R) :
    (contAt (E21 L N) (evCallI (E21 L N) 1 2000) 1000 21 26 0 (codeOf Try.f21) (finK (E21 L N) 1000 Try.f21 (finC (.one .bool) κ))) (.exit 0) f21.T0_e0 f21.H0_e0
    = f21.p0_e0' L N (fun a0 => κ (.tv .bool a0)) := by kernel_rfl
theorem f21.p0_e0_eq {R : Type} (L N : Nat) (κ : AV → Option R) :
    (contAt (E21 L N) (evCallI (E21 L N) 1 2000) 1000 21 26 0 (codeOf Try.f21) (finK (E21 L N) 1000 Try.f21 (finC (.one .bool) κ))) (.exit 0) f21.T0_e0 f21.H0_e0
    = f21.p0_e0 L N (fun a0 => κ (.tv .bool a0)) := by
  rw [f21.p0_e0_pre]
  unfold f21.p0_e0
  rfl
theorem f21.p0_r_pre {R : Type} (L N : Nat) (κ : AV → Option R) (z3 : Bool) :
    (contAt (E21 L N) (evCallI (E21 L N) 1 2000) 1000 21 26 0 (codeOf Try.f21) (finK (E21 L N) 1000 Try.f21 (finC (.one .bool) κ))) .ret (f21.T0_r z3) (f21.H0_r z3)
    = f21.p0_r' L N (fun a0 => κ (.tv .bool a0)) z3 := by kernel_rfl
theorem f21.p0_r_eq {R : Type} (L N : Nat) (κ : AV → Option R) (z3 : Bool) :
    (contAt (E21 L N) (evCallI (E21 L N) 1 2000) 1000 21 26 0 (codeOf Try.f21) (finK (E21 L N) 1000 Try.f21 (finC (.one .bool) κ))) .ret (f21.T0_r z3) (f21.H0_r z3)
    = f21.p0_r L N (fun a0 => κ (.tv .bool a0)) z3 := by
  rw [f21.p0_r_pre]
  unfold f21.p0_r
  rfl
theorem f21.b_pre {R : Type} (L N : Nat) (κ : AV → Option R) (x0 : (List Int)) (x1 : (List Int)) :
    evBody (E21 L N) (evCallI (E21 L N) 1 2000) 1000 21 Try.f21 [(.tv (.sl i64) x0), (.tv (.sl i64) x1)] [] [] (finC (.one .bool) κ)
    = f21.b' L N (fun a0 => κ (.tv .bool a0)) (fun s0 s1 s2 => evLp (E21 L N) (evCallI (E21 L N) 1 2000) 1000 21 26 0 f21.c0 (contAt (E21 L N) (evCallI (E21 L N) 1 2000) 1000 21 26 0 (codeOf Try.f21) (finK (E21 L N) 1000 Try.f21 (finC (.one .bool) κ))) L (f21.T0 s0 s1 s2) (f21.H0 s0 s1 s2)) x0 x1 := by kernel_rfl
theorem f21.b_eq {R : Type} (L N : Nat) (κ : AV → Option R) (x0 : (List Int)) (x1 : (List Int)) :
    evBody (E21 L N) (evCallI (E21 L N) 1 2000) 1000 21 Try.f21 [(.tv (.sl i64) x0), (.tv (.sl i64) x1)] [] [] (finC (.one .bool) κ)
    = f21.b L N (fun a0 => κ (.tv .bool a0)) x0 x1 := by
  rw [f21.b_pre]
  unfold f21.b
  simp only [f21.l0_eq, f21.p0_e0_eq, f21.p0_r_eq]
theorem f21.s0'_nat {R R' : Type} (j : R → Option R') (L N : Nat) (k0_e0 : Option R) (k0_r : Bool → Option R) (rec0 : (List Int) → (List Int) → Int → Option R) (s0 : (List Int)) (s1 : (List Int)) (s2 : Int) :
    f21.s0' L N (k0_e0.bind j) (fun a0 => (k0_r a0).bind j) (fun a0 a1 a2 => (rec0 a0 a1 a2).bind j) s0 s1 s2 = (f21.s0' L N k0_e0 k0_r rec0 s0 s1 s2).bind j := by
  unfold f21.s0'
  repeat' (first | (with_reducible refine cond_nat ?_ ?_) | (with_reducible refine bind_nat fun _ => ?_) | rfl)
theorem f21.s0_nat {R R' : Type} (j : R → Option R') (L N : Nat) (k0_e0 : Option R) (k0_r : Bool → Option R) (rec0 : (List Int) → (List Int) → Int → Option R) (s0 : (List Int)) (s1 : (List Int)) (s2 : Int) :
    f21.s0 L N (k0_e0.bind j) (fun a0 => (k0_r a0).bind j) (fun a0 a1 a2 => (rec0 a0 a1 a2).bind j) s0 s1 s2 = (f21.s0 L N k0_e0 k0_r rec0 s0 s1 s2).bind j := by
  unfold f21.s0
  exact f21.s0'_nat ..
theorem f21.l0_nat {R R' : Type} (j : R → Option R') (L N : Nat) (k0_e0 : Option R) (k0_r : Bool → Option R) : ∀ (n : Nat) (s0 : (List Int)) (s1 : (List Int)) (s2 : Int),
    f21.l0 L N (k0_e0.bind j) (fun a0 => (k0_r a0).bind j) n s0 s1 s2 = (f21.l0 L N k0_e0 k0_r n s0 s1 s2).bind j := by
  intro n
  induction n with
  | zero => intros; rfl
  | succ n ih =>
    intro s0 s1 s2
    show f21.s0 L N (k0_e0.bind j) (fun a0 => (k0_r a0).bind j) (f21.l0 L N (k0_e0.bind j) (fun a0 => (k0_r a0).bind j) n) s0 s1 s2 = _
    rw [show f21.l0 L N (k0_e0.bind j) (fun a0 => (k0_r a0).bind j) n = (fun s0 s1 s2 => (f21.l0 L N k0_e0 k0_r n s0 s1 s2).bind j) from funext fun s0 => funext fun s1 => funext fun s2 => ih s0 s1 s2]
    exact f21.s0_nat ..
theorem f21.p0_e0'_nat {R R' : Type} (j : R → Option R') (L N : Nat) (k : Bool → Option R) :
    f21.p0_e0' L N (fun a0 => (k a0).bind j) = (f21.p0_e0' L N k).bind j := by
  unfold f21.p0_e0'
  repeat' (first | (with_reducible refine cond_nat ?_ ?_) | (with_reducible refine bind_nat fun _ => ?_) | rfl)
theorem f21.p0_e0_nat {R R' : Type} (j : R → Option R') (L N : Nat) (k : Bool → Option R) :
    f21.p0_e0 L N (fun a0 => (k a0).bind j) = (f21.p0_e0 L N k).bind j := by
  unfold f21.p0_e0
  exact f21.p0_e0'_nat ..
theorem f21.p0_r'_nat {R R' : Type} (j : R → Option R') (L N : Nat) (k : Bool → Option R) (z3 : Bool) :
    f21.p0_r' L N (fun a0 => (k a0).bind j) z3 = (f21.p0_r' L N k z3).bind j := by
  unfold f21.p0_r'
  repeat' (first | (with_reducible refine cond_nat ?_ ?_) | (with_reducible refine bind_nat fun _ => ?_) | rfl)
theorem f21.p0_r_nat {R R' : Type} (j : R → Option R') (L N : Nat) (k : Bool → Option R) (z3 : Bool) :
    f21.p0_r L N (fun a0 => (k a0).bind j) z3 = (f21.p0_r L N k z3).bind j := by
  unfold f21.p0_r
  exact f21.p0_r'_nat ..
theorem f21.b'_nat {R R' : Type} (j : R → Option R') (L N : Nat) (k : Bool → Option R) (w0 : (List Int) → (List Int) → Int → Option R) (x0 : (List Int)) (x1 : (List Int)) :
    f21.b' L N (fun a0 => (k a0).bind j) (fun a0 a1 a2 => (w0 a0 a1 a2).bind j) x0 x1 = (f21.b' L N k w0 x0 x1).bind j := by
  unfold f21.b'
  repeat' (first | (with_reducible refine cond_nat ?_ ?_) | (with_reducible refine bind_nat fun _ => ?_) | rfl)
theorem f21.b_nat {R R' : Type} (j : R → Option R') (L N : Nat) (k : Bool → Option R) (x0 : (List Int)) (x1 : (List Int)) :
    f21.b L N (fun a0 => (k a0).bind j) x0 x1 = (f21.b L N k x0 x1).bind j := by
  unfold f21.b
  simp only [f21.l0_nat, f21.p0_e0_nat, f21.p0_r_nat]
  exact f21.b'_nat ..
theorem f21.ok (L N : Nat) (hΦ : TellsOk Try.prog ((Φ20 L N))) : EntOk Try.prog 21 (f21.ent L N) := by
  intro args vw site h
  unfold f21.ent
  split
  · rename_i d ha
    intro y hy hs
    refine call_ro (dep := 1000) (E := (E21 L N)) (rs := (.one .bool)) (v := (.tv .bool y)) (sound_of hΦ) okP (callI_sound (sound_of hΦ) okP 1 2000) (f := Try.f21) rfl hs ha ?_ rfl site
    refine (f21.b_eq L N some d.1 d.2.1).trans ?_
    refine ((f21.b_nat (fun y => (some (.tv .bool y) : Option AV)) L N some d.1 d.2.1)).trans ?_
    rw [show f21.b L N some d.1 d.2.1 = some y from hy]
    rfl
  · intro y hy
    cases hy
def Φ21 (L N : Nat) : Tells := (addT (Φ20 L N) 21 (f21.ent L N))
theorem Φ21_ok (L N : Nat) : TellsOk Try.prog (Φ21 L N) := addT_ok (Φ20_ok L N) (f21.ok L N (Φ20_ok L N))
def f129.b' {R : Type} (L N : Nat) (k : Bool → Option R) (x0 : Move) (x1 : Move) : Option R :=
  bif (x0.act != x1.act) then
    k false
  else bif (x0.to != x1.to) then
    k false
  else k true
def f129.b {R : Type} (L N : Nat) (k : Bool → Option R) (x0 : Move) (x1 : Move) : Option R :=
  f129.b' L N k x0 x1
def f129 (L N : Nat) (x0 : Move) (x1 : Move) : Option (Bool) := f129.b L N some x0 x1
def f129.ent (L N : Nat) (args : List AV) (vw : View) (site : Nat) : Ans := match roD [(.st 0), (.st 0)] vw args with
  | some d => ⟨Bool, f129 L N d.1 d.2.1, fun y => ((.tv .bool y), [], [])⟩
  | none => Ans.no
noncomputable def E129 (L N : Nat) : Env := { P := Try.prog, ty := tyOf, Φ := (Φ21 L N), inl := inlT, live := lives, liveX := livesX, L := L, dp := none, prom := promT, heal := healT, ren := renT }
theorem f129.b_pre {R : Type} (L N : Nat) (κ : AV → Option R) (x0 : Move) (x1 : Move) :
    evBody (E129 L N) (evCallI (E129 L N) 1 2000) 1000 129 Try.f129 [(.tv (.st 0) x0), (.tv (.st 0) x1)] [] [] (finC (.one .bool) κ)
    = f129.b' L N (fun a0 => κ (.tv .bool a0)) x0 x1 := by kernel_rfl
theorem f129.b_eq {R : Type} (L N : Nat) (κ : AV → Option R) (x0 : Move) (x1 : Move) :
    evBody (E129 L N) (evCallI (E129 L N) 1 2000) 1000 129 Try.f129 [(.tv (.st 0) x0), (.tv (.st 0) x1)] [] [] (finC (.one .bool) κ)
    = f129.b L N (fun a0 => κ (.tv .bool a0)) x0 x1 := by
  rw [f129.b_pre]
  unfold f129.b
  rfl
theorem f129.b'_nat {R R' : Type} (j : R → Option R') (L N : Nat) (k : Bool → Option R) (x0 : Move) (x1 : Move) :
    f129.b' L N (fun a0 => (k a0).bind j) x0 x1 = (f129.b' L N k x0 x1).bind j := by
  unfold f129.b'
  repeat' (first | (with_reducible refine cond_nat ?_ ?_) | (with_reducible refine bind_nat fun _ => ?_) | rfl)
theorem f129.b_nat {R R' : Type} (j : R → Option R') (L N : Nat) (k : Bool → Option R) (x0 : Move) (x1 : Move) :
    f129.b L N (fun a0 => (k a0).bind j) x0 x1 = (f129.b L N k x0 x1).bind j := by
  unfold f129.b
  exact f129.b'_nat ..
theorem f129.ok (L N : Nat) (hΦ : TellsOk Try.prog ((Φ21 L N))) : EntOk Try.prog 129 (f129.ent L N) := by
  intro args vw site h
  unfold f129.ent
  split
  · rename_i d ha
    intro y hy hs
    refine call_ro (dep := 1000) (E := (E129 L N)) (rs := (.one .bool)) (v := (.tv .bool y)) (sound_of hΦ) okP (callI_sound (sound_of hΦ) okP 1 2000) (f := Try.f129) rfl hs ha ?_ rfl site
    refine (f129.b_eq L N some d.1 d.2.1).trans ?_
    refine ((f129.b_nat (fun y => (some (.tv .bool y) : Option AV)) L N some d.1 d.2.1)).trans ?_
    rw [show f129.b L N some d.1 d.2.1 = some y from hy]
    rfl
  · intro y hy
    cases hy
def Φ129 (L N : Nat) : Tells := (addT (Φ21 L N) 129 (f129.ent L N))
theorem Φ129_ok (L N : Nat) : TellsOk Try.prog (Φ129 L N) := addT_ok (Φ21_ok L N) (f129.ok L N (Φ21_ok L N))
def f101.s0' {R : Type} (L N : Nat) (k0_e0 : Option R) (k0_r : Bool → Option R) (rec0 : (List Move) → (List Move) → Int → Option R) (s0 : (List Move)) (s1 : (List Move)) (s2 : Int) : Option R :=
  bif (decide (s2 < (s0.length : Int))) then
    bif (decide (0 ≤ s2) && decide (s2 < (s0.length : Int))) then
      bif (decide (0 ≤ s2) && decide (s2 < (s1.length : Int))) then
        (f129 L N (listAt s0 (Ty.dflt (.st 0)) s2.toNat) (listAt s1 (Ty.dflt (.st 0)) s2.toNat)).bind fun y3 =>
        bif (!y3) then
          k0_r false
        else rec0 s0 s1 (wi (s2 + (1 : Int)))
      else none
    else none
  else k0_e0
def f101.s0 {R : Type} (L N : Nat) (k0_e0 : Option R) (k0_r : Bool → Option R) (rec0 : (List Move) → (List Move) → Int → Option R) (s0 : (List Move)) (s1 : (List Move)) (s2 : Int) : Option R :=
  f101.s0' L N k0_e0 k0_r rec0 s0 s1 s2
def f101.l0 {R : Type} (L N : Nat) (k0_e0 : Option R) (k0_r : Bool → Option R) : Nat → (List Move) → (List Move) → Int → Option R
  | 0, _, _, _ => none
  | n + 1, s0, s1, s2 => f101.s0 L N k0_e0 k0_r (f101.l0 L N k0_e0 k0_r n) s0 s1 s2
def f101.T0 (s0 : (List Move)) (s1 : (List Move)) (s2 : Int) : T := mkT 27 [(0, (.tv (.sl (.st 0)) s0)), (1, (.tv (.sl (.st 0)) s1)), (5, (.tv i64 s2))]
def f101.H0 (s0 : (List Move)) (s1 : (List Move)) (s2 : Int) : H := []
def f101.T0_e0 : T := mkT 27 []
def f101.H0_e0 : H := []
def f101.T0_r (z4 : Bool) : T := mkT 27 [(4, (.tv .bool z4))]
def f101.H0_r (z4 : Bool) : H := []
def f101.p0_e0' {R : Type} (L N : Nat) (k : Bool → Option R) : Option R :=
  k true
def f101.p0_e0 {R : Type} (L N : Nat) (k : Bool → Option R) : Option R :=
  f101.p0_e0' L N k
def f101.p0_r' {R : Type} (L N : Nat) (k : Bool → Option R) (z4 : Bool) : Option R :=
  k z4
def f101.p0_r {R : Type} (L N : Nat) (k : Bool → Option R) (z4 : Bool) : Option R :=
  f101.p0_r' L N k z4
def f101.b' {R : Type} (L N : Nat) (k : Bool → Option R) (w0 : (List Move) → (List Move) → Int → Option R) (x0 : (List Move)) (x1 : (List Move)) : Option R :=
  bif ((x0.length : Int) != (x1.length : Int)) then
    k false
  else w0 x0 x1 (0 : Int)
def f101.b {R : Type} (L N : Nat) (k : Bool → Option R) (x0 : (List Move)) (x1 : (List Move)) : Option R :=
  f101.b' L N k (fun s0 s1 s2 => f101.l0 L N (f101.p0_e0 L N k) (fun z4 => f101.p0_r L N k z4) L s0 s1 s2) x0 x1
def f101 (L N : Nat) (x0 : (List Move)) (x1 : (List Move)) : Option (Bool) := f101.b L N some x0 x1
def f101.ent (L N : Nat) (args : List AV) (vw : View) (site : Nat) : Ans := match roD [(.sl (.st 0)), (.sl (.st 0))] vw args with
  | some d => ⟨Bool, f101 L N d.1 d.2.1, fun y => ((.tv .bool y), [], [])⟩
  | none => Ans.no
noncomputable def E101 (L N : Nat) : Env := { P := Try.prog, ty := tyOf, Φ := (Φ129 L N), inl := inlT, live := lives, liveX := livesX, L := L, dp := none, prom := promT, heal := healT, ren := renT }
noncomputable def f101.c0 : Code := loopAt 0 (codeOf Try.f101)
theorem f101.s0_pre {R : Type} (L N : Nat) (κ : Ex → T → H → Option R) (rec : T → H → Option R) (s0 : (List Move)) (s1 : (List Move)) (s2 : Int) :
    evRd (E101 L N) (evCallI (E101 L N) 1 2000) 1000 101 27 0 f101.c0 κ rec (f101.T0 s0 s1 s2) (f101.H0 s0 s1 s2)
    = f101.s0' L N (κ (.exit 0) f101.T0_e0 f101.H0_e0) (fun z4 => κ .ret (f101.T0_r z4) (f101.H0_r z4)) (fun s0 s1 s2 => rec (f101.T0 s0 s1 s2) (f101.H0 s0 s1 s2)) s0 s1 s2 := by kernel_rfl
theorem f101.s0_eq {R : Type} (L N : Nat) (κ : Ex → T → H → Option R) (rec : T → H → Option R) (s0 : (List Move)) (s1 : (List Move)) (s2 : Int) :
    evRd (E101 L N) (evCallI (E101 L N) 1 2000) 1000 101 27 0 f101.c0 κ rec (f101.T0 s0 s1 s2) (f101.H0 s0 s1 s2)
    = f101.s0 L N (κ (.exit 0) f101.T0_e0 f101.H0_e0) (fun z4 => κ .ret (f101.T0_r z4) (f101.H0_r z4)) (fun s0 s1 s2 => rec (f101.T0 s0 s1 s2) (f101.H0 s0 s1 s2)) s0 s1 s2 := by
  rw [f101.s0_pre]
  unfold f101.s0
  rfl
theorem f101.l0_eq {R : Type} (L N : Nat) (κ : Ex → T → H → Option R) : ∀ (n : Nat) (s0 : (List Move)) (s1 : (List Move)) (s2 : Int),
    evLp (E101 L N) (evCallI (E101 L N) 1 2000) 1000 101 27 0 f101.c0 κ n (f101.T0 s0 s1 s2) (f101.H0 s0 s1 s2)
    = f101.l0 L N (κ (.exit 0) f101.T0_e0 f101.H0_e0) (fun z4 => κ .ret (f101.T0_r z4) (f101.H0_r z4)) n s0 s1 s2 := by
  intro n
  induction n with
  | zero => intros; rfl
  | succ n ih =>
    intro s0 s1 s2
    rw [evLp_succ, f101.s0_eq]
    simp only [ih]
    rfl
theorem f101.p0_e0_pre {R : Type} (L N : Nat) (κ : AV → Option R) :
    (contAt (E101 L N) (evCallI (E101 L N) 1 2000) 1000 101 27 0 (codeOf Try.f101) (finK (E101 L N) 1000 Try.f101 (finC (.one .bool) κ))) (.exit 0) f101.T0_e0 f101.H0_e0
    = f101.p0_e0' L N (fun a0 => κ (.tv .bool a0)) := by kernel_rfl
theorem f101.p0_e0_eq {R : Type} (L N : Nat) (κ : AV → Option R) :
    (contAt (E101 L N) (evCallI (E101 L N) 1 2000) 1000 101 27 0 (codeOf Try.f101) (finK (E101 L N) 1000 Try.f101 (finC (.one .bool) κ))) (.exit 0) f101.T0_e0 f101.H0_e0
    = f101.p0_e0 L N (fun a0 => κ (.tv .bool a0)) := by
  rw [f101.p0_e0_pre]
  unfold f101.p0_e0
  rfl
theorem f101.p0_r_pre {R : Type} (L N : Nat) (κ : AV → Option R) (z4 : Bool) :
    (contAt (E101 L N) (evCallI (E101 L N) 1 2000) 1000 101 27 0 (codeOf Try.f101) (finK (E101 L N) 1000 Try.f101 (finC (.one .bool) κ))) .ret (f101.T0_r z4) (f101.H0_r z4)
    = f101.p0_r' L N (fun a0 => κ (.tv .bool a0)) z4 := by kernel_rfl
theorem f101.p0_r_eq {R : Type} (L N : Nat) (κ : AV → Option R) (z4 : Bool) :
    (contAt (E101 L N) (evCallI (E101 L N) 1 2000) 1000 101 27 0 (codeOf Try.f101) (finK (E101 L N) 1000 Try.f101 (finC (.one .bool) κ))) .ret (f101.T0_r z4) (f101.H0_r z4)
    = f101.p0_r L N (fun a0 => κ (.tv .bool a0)) z4 := by
  rw [f101.p0_r_pre]
  unfold f101.p0_r
  rfl
theorem f101.b_pre {R : Type} (L N : Nat) (κ : AV → Option R) (x0 : (List Move)) (x1 : (List Move)) :
    evBody (E101 L N) (evCallI (E101 L N) 1 2000) 1000 101 Try.f101 [(.tv (.sl (.st 0)) x0), (.tv (.sl (.st 0)) x1)] [] [] (finC (.one .bool) κ)
    = f101.b' L N (fun a0 => κ (.tv .bool a0)) (fun s0 s1 s2 => evLp (E101 L N) (evCallI (E101 L N) 1 2000) 1000 101 27 0 f101.c0 (contAt (E101 L N) (evCallI (E101 L N) 1 2000) 1000 101 27 0 (codeOf Try.f101) (finK (E101 L N) 1000 Try.f101 (finC (.one .bool) κ))) L (f101.T0 s0 s1 s2) (f101.H0 s0 s1 s2)) x0 x1 := by kernel_rfl
theorem f101.b_eq {R : Type} (L N : Nat) (κ : AV → Option R) (x0 : (List Move)) (x1 : (List Move)) :
    evBody (E101 L N) (evCallI (E101 L N) 1 2000) 1000 101 Try.f101 [(.tv (.sl (.st 0)) x0), (.tv (.sl (.st 0)) x1)] [] [] (finC (.one .bool) κ)
    = f101.b L N (fun a0 => κ (.tv .bool a0)) x0 x1 := by
  rw [f101.b_pre]
  unfold f101.b
  simp only [f101.l0_eq, f101.p0_e0_eq, f101.p0_r_eq]
theorem f101.s0'_nat {R R' : Type} (j : R → Option R') (L N : Nat) (k0_e0 : Option R) (k0_r : Bool → Option R) (rec0 : (List Move) → (List Move) → Int → Option R) (s0 : (List Move)) (s1 : (List Move)) (s2 : Int) :
    f101.s0' L N (k0_e0.bind j) (fun a0 => (k0_r a0).bind j) (fun a0 a1 a2 => (rec0 a0 a1 a2).bind j) s0 s1 s2 = (f101.s0' L N k0_e0 k0_r rec0 s0 s1 s2).bind j := by
  unfold f101.s0'
  repeat' (first | (with_reducible refine cond_nat ?_ ?_) | (with_reducible refine bind_nat fun _ => ?_) | rfl)
theorem f101.s0_nat {R R' : Type} (j : R → Option R') (L N : Nat) (k0_e0 : Option R) (k0_r : Bool → Option R) (rec0 : (List Move) → (List Move) → Int → Option R) (s0 : (List Move)) (s1 : (List Move)) (s2 : Int) :
    f101.s0 L N (k0_e0.bind j) (fun a0 => (k0_r a0).bind j) (fun a0 a1 a2 => (rec0 a0 a1 a2).bind j) s0 s1 s2 = (f101.s0 L N k0_e0 k0_r rec0 s0 s1 s2).bind j := by
  unfold f101.s0
  exact f101.s0'_nat ..
theorem f101.l0_nat {R R' : Type} (j : R → Option R') (L N : Nat) (k0_e0 : Option R) (k0_r : Bool → Option R) : ∀ (n : Nat) (s0 : (List Move)) (s1 : (List Move)) (s2 : Int),
    f101.l0 L N (k0_e0.bind j) (fun a0 => (k0_r a0).bind j) n s0 s1 s2 = (f101.l0 L N k0_e0 k0_r n s0 s1 s2).bind j := by
  intro n
  induction n with
  | zero => intros; rfl
  | succ n ih =>
    intro s0 s1 s2
    show f101.s0 L N (k0_e0.bind j) (fun a0 => (k0_r a0).bind j) (f101.l0 L N (k0_e0.bind j) (fun a0 => (k0_r a0).bind j) n) s0 s1 s2 = _
    rw [show f101.l0 L N (k0_e0.bind j) (fun a0 => (k0_r a0).bind j) n = (fun s0 s1 s2 => (f101.l0 L N k0_e0 k0_r n s0 s1 s2).bind j) from funext fun s0 => funext fun s1 => funext fun s2 => ih s0 s1 s2]
    exact f101.s0_nat ..
theorem f101.p0_e0'_nat {R R' : Type} (j : R → Option R') (L N : Nat) (k : Bool → Option R) :
    f101.p0_e0' L N (fun a0 => (k a0).bind j) = (f101.p0_e0' L N k).bind j := by
  unfold f101.p0_e0'
  repeat' (first | (with_reducible refine cond_nat ?_ ?_) | (with_reducible refine bind_nat fun _ => ?_) | rfl)
theorem f101.p0_e0_nat {R R' : Type} (j : R → Option R') (L N : Nat) (k : Bool → Option R) :
    f101.p0_e0 L N (fun a0 => (k a0).bind j) = (f101.p0_e0 L N k).bind j := by
  unfold f101.p0_e0
  exact f101.p0_e0'_nat ..
theorem f101.p0_r'_nat {R R' : Type} (j : R → Option R') (L N : Nat) (k : Bool → Option R) (z4 : Bool) :
    f101.p0_r' L N (fun a0 => (k a0).bind j) z4 = (f101.p0_r' L N k z4).bind j := by
  unfold f101.p0_r'
  repeat' (first | (with_reducible refine cond_nat ?_ ?_) | (with_reducible refine bind_nat fun _ => ?_) | rfl)
theorem f101.p0_r_nat {R R' : Type} (j : R → Option R') (L N : Nat) (k : Bool → Option R) (z4 : Bool) :
    f101.p0_r L N (fun a0 => (k a0).bind j) z4 = (f101.p0_r L N k z4).bind j := by
  unfold f101.p0_r
  exact f101.p0_r'_nat ..
theorem f101.b'_nat {R R' : Type} (j : R → Option R') (L N : Nat) (k : Bool → Option R) (w0 : (List Move) → (List Move) → Int → Option R) (x0 : (List Move)) (x1 : (List Move)) :
    f101.b' L N (fun a0 => (k a0).bind j) (fun a0 a1 a2 => (w0 a0 a1 a2).bind j) x0 x1 = (f101.b' L N k w0 x0 x1).bind j := by
  unfold f101.b'
  repeat' (first | (with_reducible refine cond_nat ?_ ?_) | (with_reducible refine bind_nat fun _ => ?_) | rfl)
theorem f101.b_nat {R R' : Type} (j : R → Option R') (L N : Nat) (k : Bool → Option R) (x0 : (List Move)) (x1 : (List Move)) :
    f101.b L N (fun a0 => (k a0).bind j) x0 x1 = (f101.b L N k x0 x1).bind j := by
  unfold f101.b
  simp only [f101.l0_nat, f101.p0_e0_nat, f101.p0_r_nat]
  exact f101.b'_nat ..
theorem f101.ok (L N : Nat) (hΦ : TellsOk Try.prog ((Φ129 L N))) : EntOk Try.prog 101 (f101.ent L N) := by
  intro args vw site h
  unfold f101.ent
  split
  · rename_i d ha
    intro y hy hs
    refine call_ro (dep := 1000) (E := (E101 L N)) (rs := (.one .bool)) (v := (.tv .bool y)) (sound_of hΦ) okP (callI_sound (sound_of hΦ) okP 1 2000) (f := Try.f101) rfl hs ha ?_ rfl site
    refine (f101.b_eq L N some d.1 d.2.1).trans ?_
    refine ((f101.b_nat (fun y => (some (.tv .bool y) : Option AV)) L N some d.1 d.2.1)).trans ?_
    rw [show f101.b L N some d.1 d.2.1 = some y from hy]
    rfl
  · intro y hy
    cases hy
def Φ101 (L N : Nat) : Tells := (addT (Φ129 L N) 101 (f101.ent L N))
theorem Φ101_ok (L N : Nat) : TellsOk Try.prog (Φ101 L N) := addT_ok (Φ129_ok L N) (f101.ok L N (Φ129_ok L N))
def f64.s0' {R : Type} (L N : Nat) (k0_e0 : Option R) (k0_r : Bool → Option R) (rec0 : (List (List Move)) → (List (List Move)) → Int → Option R) (s0 : (List (List Move))) (s1 : (List (List Move))) (s2 : Int) : Option R :=
  bif (decide (s2 < (s0.length : Int))) then
    bif (decide (0 ≤ s2) && decide (s2 < (s0.length : Int))) then
      bif (decide (0 ≤ s2) && decide (s2 < (s1.length : Int))) then
        (f101 L N (listAt s0 [] s2.toNat) (listAt s1 [] s2.toNat)).bind fun y3 =>
        bif (!y3) then
          k0_r false
        else rec0 s0 s1 (wi (s2 + (1 : Int)))
      else none
    else none
  else k0_e0
def f64.s0 {R : Type} (L N : Nat) (k0_e0 : Option R) (k0_r : Bool → Option R) (rec0 : (List (List Move)) → (List (List Move)) → Int → Option R) (s0 : (List (List Move))) (s1 : (List (List Move))) (s2 : Int) : Option R :=
  f64.s0' L N k0_e0 k0_r rec0 s0 s1 s2
def f64.l0 {R : Type} (L N : Nat) (k0_e0 : Option R) (k0_r : Bool → Option R) : Nat → (List (List Move)) → (List (List Move)) → Int → Option R
  | 0, _, _, _ => none
  | n + 1, s0, s1, s2 => f64.s0 L N k0_e0 k0_r (f64.l0 L N k0_e0 k0_r n) s0 s1 s2
def f64.T0 (s0 : (List (List Move))) (s1 : (List (List Move))) (s2 : Int) : T := mkT 27 [(0, (.tv (.sl (.sl (.st 0))) s0)), (1, (.tv (.sl (.sl (.st 0))) s1)), (5, (.tv i64 s2))]
def f64.H0 (s0 : (List (List Move))) (s1 : (List (List Move))) (s2 : Int) : H := []
def f64.T0_e0 : T := mkT 27 []
def f64.H0_e0 : H := []
def f64.T0_r (z4 : Bool) : T := mkT 27 [(4, (.tv .bool z4))]
def f64.H0_r (z4 : Bool) : H := []
def f64.p0_e0' {R : Type} (L N : Nat) (k : Bool → Option R) : Option R :=
  k true
def f64.p0_e0 {R : Type} (L N : Nat) (k : Bool → Option R) : Option R :=
  f64.p0_e0' L N k
def f64.p0_r' {R : Type} (L N : Nat) (k : Bool → Option R) (z4 : Bool) : Option R :=
  k z4
def f64.p0_r {R : Type} (L N : Nat) (k : Bool → Option R) (z4 : Bool) : Option R :=
  f64.p0_r' L N k z4
def f64.b' {R : Type} (L N : Nat) (k : Bool → Option R) (w0 : (List (List Move)) → (List (List Move)) → Int → Option R) (x0 : (List (List Move))) (x1 : (List (List Move))) : Option R :=
  bif ((x0.length : Int) != (x1.length : Int)) then
    k false
  else w0 x0 x1 (0 : Int)
def f64.b {R : Type} (L N : Nat) (k : Bool → Option R) (x0 : (List (List Move))) (x1 : (List (List Move))) : Option R :=
  f64.b' L N k (fun s0 s1 s2 => f64.l0 L N (f64.p0_e0 L N k) (fun z4 => f64.p0_r L N k z4) L s0 s1 s2) x0 x1
def f64 (L N : Nat) (x0 : (List (List Move))) (x1 : (List (List Move))) : Option (Bool) := f64.b L N some x0 x1
def f64.ent (L N : Nat) (args : List AV) (vw : View) (site : Nat) : Ans := match roD [(.sl (.sl (.st 0))), (.sl (.sl (.st 0)))] vw args with
  | some d => ⟨Bool, f64 L N d.1 d.2.1, fun y => ((.tv .bool y), [], [])⟩
  | none => Ans.no
noncomputable def E64 (L N : Nat) : Env := { P := Try.prog, ty := tyOf, Φ := (Φ101 L N), inl := inlT, live := lives, liveX := livesX, L := L, dp := none, prom := promT, heal := healT, ren := renT }
noncomputable def f64.c0 : Code := loopAt 0 (codeOf Try.f64)
theorem f64.s0_pre {R : Type} (L N : Nat) (κ : Ex → T → H → Option R) (rec : T → H → Option R) (s0 : (List (List Move))) (s1 : (List (List Move))) (s2 : Int) :
    evRd (E64 L N) (evCallI (E64 L N) 1 2000) 1000 64 27 0 f64.c0 κ rec (f64.T0 s0 s1 s2) (f64.H0 s0 s1 s2)
    = f64.s0' L N (κ (.exit 0) f64.T0_e0 f64.H0_e0) (fun z4 => κ .ret (f64.T0_r z4) (f64.H0_r z4)) (fun s0 s1 s2 => rec (f64.T0 s0 s1 s2) (f64.H0 s0 s1 s2)) s0 s1 s2 := by kernel_rfl
theorem f64.s0_eq {R : Type} (L N : Nat) (κ : Ex → T → H → Option R) (rec : T → H → Option R) (s0 : (List (List Move))) (s1 : (List (List Move))) (s2 : Int) :
    evRd (E64 L N) (evCallI (E64 L N) 1 2000) 1000 64 27 0 f64.c0 κ rec (f64.T0 s0 s1 s2) (f64.H0 s0 s1 s2)
    = f64.s0 L N (κ (.exit 0) f64.T0_e0 f64.H0_e0) (fun z4 => κ .ret (f64.T0_r z4) (f64.H0_r z4)) (fun s0 s1 s2 => rec (f64.T0 s0 s1 s2) (f64.H0 s0 s1 s2)) s0 s1 s2 := by
  rw [f64.s0_pre]
  unfold f64.s0
  rfl
theorem f64.l0_eq {R : Type} (L N : Nat) (κ : Ex → T → H → Option R) : ∀ (n : Nat) (s0 : (List (List Move))) (s1 : (List (List Move))) (s2 : Int),
    evLp (E64 L N) (evCallI (E64 L N) 1 2000) 1000 64 27 0 f64.c0 κ n (f64.T0 s0 s1 s2) (f64.H0 s0 s1 s2)
    = f64.l0 L N (κ (.exit 0) f64.T0_e0 f64.H0_e0) (fun z4 => κ .ret (f64.T0_r z4) (f64.H0_r z4)) n s0 s1 s2 := by
  intro n
  induction n with
  | zero => intros; rfl
  | succ n ih =>
    intro s0 s1 s2
    rw [evLp_succ, f64.s0_eq]
    simp only [ih]
    rfl
theorem f64.p0_e0_pre {R : Type} (L N : Nat) (κ : AV → Option R) :
    (contAt (E64 L N) (evCallI (E64 L N) 1 2000) 1000 64 27 0 (codeOf Try.f64) (finK (E64 L N) 1000 Try.f64 (finC (.one .bool) κ))) (.exit 0) f64.T0_e0 f64.H0_e0
    = f64.p0_e0' L N (fun a0 => κ (.tv .bool a0)) := by kernel_rfl
theorem f64.p0_e0_eq {R : Type} (L N : Nat) (κ : AV → Option R) :
    (contAt (E64 L N) (evCallI (E64 L N) 1 2000) 1000 64 27 0 (codeOf Try.f64) (finK (E64 L N) 1000 Try.f64 (finC (.one .bool) κ))) (.exit 0) f64.T0_e0 f64.H0_e0
    = f64.p0_e0 L N (fun a0 => κ (.tv .bool a0)) := by
  rw [f64.p0_e0_pre]
  unfold f64.p0_e0
  rfl
theorem f64.p0_r_pre {R : Type} (L N : Nat) (κ : AV → Option R) (z4 : Bool) :
    (contAt (E64 L N) (evCallI (E64 L N) 1 2000) 1000 64 27 0 (codeOf Try.f64) (finK (E64 L N) 1000 Try.f64 (finC (.one .bool) κ))) .ret (f64.T0_r z4) (f64.H0_r z4)
    = f64.p0_r' L N (fun a0 => κ (.tv .bool a0)) z4 := by kernel_rfl
theorem f64.p0_r_eq {R : Type} (L N : Nat) (κ : AV → Option R) (z4 : Bool) :
    (contAt (E64 L N) (evCallI (E64 L N) 1 2000) 1000 64 27 0 (codeOf Try.f64) (finK (E64 L N) 1000 Try.f64 (finC (.one .bool) κ))) .ret (f64.T0_r z4) (f64.H0_r z4)
    = f64.p0_r L N (fun a0 => κ (.tv .bool a0)) z4 := by
  rw [f64.p0_r_pre]
  unfold f64.p0_r
  rfl
theorem f64.b_pre {R : Type} (L N : Nat) (κ : AV → Option R) (x0 : (List (List Move))) (x1 : (List (List Move))) :
    evBody (E64 L N) (evCallI (E64 L N) 1 2000) 1000 64 Try.f64 [(.tv (.sl (.sl (.st 0))) x0), (.tv (.sl (.sl (.st 0))) x1)] [] [] (finC (.one .bool) κ)
    = f64.b' L N (fun a0 => κ (.tv .bool a0)) (fun s0 s1 s2 => evLp (E64 L N) (evCallI (E64 L N) 1 2000) 1000 64 27 0 f64.c0 (contAt (E64 L N) (evCallI (E64 L N) 1 2000) 1000 64 27 0 (codeOf Try.f64) (finK (E64 L N) 1000 Try.f64 (finC (.one .bool) κ))) L (f64.T0 s0 s1 s2) (f64.H0 s0 s1 s2)) x0 x1 := by kernel_rfl
theorem f64.b_eq {R : Type} (L N : Nat) (κ : AV → Option R) (x0 : (List (List Move))) (x1 : (List (List Move))) :
    evBody (E64 L N) (evCallI (E64 L N) 1 2000) 1000 64 Try.f64 [(.tv (.sl (.sl (.st 0))) x0), (.tv (.sl (.sl (.st 0))) x1)] [] [] (finC (.one .bool) κ)
    = f64.b L N (fun a0 => κ (.tv .bool a0)) x0 x1 := by
  rw [f64.b_pre]
  unfold f64.b
  simp only [f64.l0_eq, f64.p0_e0_eq, f64.p0_r_eq]
theorem f64.s0'_nat {R R' : Type} (j : R → Option R') (L N : Nat) (k0_e0 : Option R) (k0_r : Bool → Option R) (rec0 : (List (List Move)) → (List (List Move)) → Int → Option R) (s0 : (List (List Move))) (s1 : (List (List Move))) (s2 : Int) :
    f64.s0' L N (k0_e0.bind j) (fun a0 => (k0_r a0).bind j) (fun a0 a1 a2 => (rec0 a0 a1 a2).bind j) s0 s1 s2 = (f64.s0' L N k0_e0 k0_r rec0 s0 s1 s2).bind j := by
  unfold f64.s0'
  repeat' (first | (with_reducible refine cond_nat ?_ ?_) | (with_reducible refine bind_nat fun _ => ?_) | rfl)
theorem f64.s0_nat {R R' : Type} (j : R → Option R') (L N : Nat) (k0_e0 : Option R) (k0_r : Bool → Option R) (rec0 : (List (List Move)) → (List (List Move)) → Int → Option R) (s0 : (List (List Move))) (s1 : (List (List Move))) (s2 : Int) :
    f64.s0 L N (k0_e0.bind j) (fun a0 => (k0_r a0).bind j) (fun a0 a1 a2 => (rec0 a0 a1 a2).bind j) s0 s1 s2 = (f64.s0 L N k0_e0 k0_r rec0 s0 s1 s2).bind j := by
  unfold f64.s0
  exact f64.s0'_nat ..
theorem f64.l0_nat {R R' : Type} (j : R → Option R') (L N : Nat) (k0_e0 : Option R) (k0_r : Bool → Option R) : ∀ (n : Nat) (s0 : (List (List Move))) (s1 : (List (List Move))) (s2 : Int),
    f64.l0 L N (k0_e0.bind j) (fun a0 => (k0_r a0).bind j) n s0 s1 s2 = (f64.l0 L N k0_e0 k0_r n s0 s1 s2).bind j := by
  intro n
  induction n with
  | zero => intros; rfl
  | succ n ih =>
    intro s0 s1 s2
    show f64.s0 L N (k0_e0.bind j) (fun a0 => (k0_r a0).bind j) (f64.l0 L N (k0_e0.bind j) (fun a0 => (k0_r a0).bind j) n) s0 s1 s2 = _
    rw [show f64.l0 L N (k0_e0.bind j) (fun a0 => (k0_r a0).bind j) n = (fun s0 s1 s2 => (f64.l0 L N k0_e0 k0_r n s0 s1 s2).bind j) from funext fun s0 => funext fun s1 => funext fun s2 => ih s0 s1 s2]
    exact f64.s0_nat ..
theorem f64.p0_e0'_nat {R R' : Type} (j : R → Option R') (L N : Nat) (k : Bool → Option R) :
    f64.p0_e0' L N (fun a0 => (k a0).bind j) = (f64.p0_e0' L N k).bind j := by
  unfold f64.p0_e0'
  repeat' (first | (with_reducible refine cond_nat ?_ ?_) | (with_reducible refine bind_nat fun _ => ?_) | rfl)
theorem f64.p0_e0_nat {R R' : Type} (j : R → Option R') (L N : Nat) (k : Bool → Option R) :
    f64.p0_e0 L N (fun a0 => (k a0).bind j) = (f64.p0_e0 L N k).bind j := by
  unfold f64.p0_e0
  exact f64.p0_e0'_nat ..
theorem f64.p0_r'_nat {R R' : Type} (j : R → Option R') (L N : Nat) (k : Bool → Option R) (z4 : Bool) :
    f64.p0_r' L N (fun a0 => (k a0).bind j) z4 = (f64.p0_r' L N k z4).bind j := by
  unfold f64.p0_r'
  repeat' (first | (with_reducible refine cond_nat ?_ ?_) | (with_reducible refine bind_nat fun _ => ?_) | rfl)
theorem f64.p0_r_nat {R R' : Type} (j : R → Option R') (L N : Nat) (k : Bool → Option R) (z4 : Bool) :
    f64.p0_r L N (fun a0 => (k a0).bind j) z4 = (f64.p0_r L N k z4).bind j := by
  unfold f64.p0_r
  exact f64.p0_r'_nat ..
theorem f64.b'_nat {R R' : Type} (j : R → Option R') (L N : Nat) (k : Bool → Option R) (w0 : (List (List Move)) → (List (List Move)) → Int → Option R) (x0 : (List (List Move))) (x1 : (List (List Move))) :
    f64.b' L N (fun a0 => (k a0).bind j) (fun a0 a1 a2 => (w0 a0 a1 a2).bind j) x0 x1 = (f64.b' L N k w0 x0 x1).bind j := by
  unfold f64.b'
  repeat' (first | (with_reducible refine cond_nat ?_ ?_) | (with_reducible refine bind_nat fun _ => ?_) | rfl)
theorem f64.b_nat {R R' : Type} (j : R → Option R') (L N : Nat) (k : Bool → Option R) (x0 : (List (List Move))) (x1 : (List (List Move))) :
    f64.b L N (fun a0 => (k a0).bind j) x0 x1 = (f64.b L N k x0 x1).bind j := by
  unfold f64.b
  simp only [f64.l0_nat, f64.p0_e0_nat, f64.p0_r_nat]
  exact f64.b'_nat ..
theorem f64.ok (L N : Nat) (hΦ : TellsOk Try.prog ((Φ101 L N))) : EntOk Try.prog 64 (f64.ent L N) := by
  intro args vw site h
  unfold f64.ent
  split
  · rename_i d ha
    intro y hy hs
    refine call_ro (dep := 1000) (E := (E64 L N)) (rs := (.one .bool)) (v := (.tv .bool y)) (sound_of hΦ) okP (callI_sound (sound_of hΦ) okP 1 2000) (f := Try.f64) rfl hs ha ?_ rfl site
    refine (f64.b_eq L N some d.1 d.2.1).trans ?_
    refine ((f64.b_nat (fun y => (some (.tv .bool y) : Option AV)) L N some d.1 d.2.1)).trans ?_
    rw [show f64.b L N some d.1 d.2.1 = some y from hy]
    rfl
  · intro y hy
    cases hy
def Φ64 (L N : Nat) : Tells := (addT (Φ101 L N) 64 (f64.ent L N))
theorem Φ64_ok (L N : Nat) : TellsOk Try.prog (Φ64 L N) := addT_ok (Φ101_ok L N) (f64.ok L N (Φ101_ok L N))
def f22.b' {R : Type} (L N : Nat) (k : Bool → Option R) (x0 : Graph) (x1 : Graph) : Option R :=
  (f64 L N x0.moves x1.moves).bind fun y0 =>
  bif (!y0) then
    k false
  else k true
def f22.b {R : Type} (L N : Nat) (k : Bool → Option R) (x0 : Graph) (x1 : Graph) : Option R :=
  f22.b' L N k x0 x1
def f22 (L N : Nat) (x0 : Graph) (x1 : Graph) : Option (Bool) := f22.b L N some x0 x1
def f22.ent (L N : Nat) (args : List AV) (vw : View) (site : Nat) : Ans := match roD [(.st 2), (.st 2)] vw args with
  | some d => ⟨Bool, f22 L N d.1 d.2.1, fun y => ((.tv .bool y), [], [])⟩
  | none => Ans.no
noncomputable def E22 (L N : Nat) : Env := { P := Try.prog, ty := tyOf, Φ := (Φ64 L N), inl := inlT, live := lives, liveX := livesX, L := L, dp := none, prom := promT, heal := healT, ren := renT }
theorem f22.b_pre {R : Type} (L N : Nat) (κ : AV → Option R) (x0 : Graph) (x1 : Graph) :
    evBody (E22 L N) (evCallI (E22 L N) 1 2000) 1000 22 Try.f22 [(.tv (.st 2) x0), (.tv (.st 2) x1)] [] [] (finC (.one .bool) κ)
    = f22.b' L N (fun a0 => κ (.tv .bool a0)) x0 x1 := by kernel_rfl
theorem f22.b_eq {R : Type} (L N : Nat) (κ : AV → Option R) (x0 : Graph) (x1 : Graph) :
    evBody (E22 L N) (evCallI (E22 L N) 1 2000) 1000 22 Try.f22 [(.tv (.st 2) x0), (.tv (.st 2) x1)] [] [] (finC (.one .bool) κ)
    = f22.b L N (fun a0 => κ (.tv .bool a0)) x0 x1 := by
  rw [f22.b_pre]
  unfold f22.b
  rfl
theorem f22.b'_nat {R R' : Type} (j : R → Option R') (L N : Nat) (k : Bool → Option R) (x0 : Graph) (x1 : Graph) :
    f22.b' L N (fun a0 => (k a0).bind j) x0 x1 = (f22.b' L N k x0 x1).bind j := by
  unfold f22.b'
  repeat' (first | (with_reducible refine cond_nat ?_ ?_) | (with_reducible refine bind_nat fun _ => ?_) | rfl)
theorem f22.b_nat {R R' : Type} (j : R → Option R') (L N : Nat) (k : Bool → Option R) (x0 : Graph) (x1 : Graph) :
    f22.b L N (fun a0 => (k a0).bind j) x0 x1 = (f22.b L N k x0 x1).bind j := by
  unfold f22.b
  exact f22.b'_nat ..
theorem f22.ok (L N : Nat) (hΦ : TellsOk Try.prog ((Φ64 L N))) : EntOk Try.prog 22 (f22.ent L N) := by
  intro args vw site h
  unfold f22.ent
  split
  · rename_i d ha
    intro y hy hs
    refine call_ro (dep := 1000) (E := (E22 L N)) (rs := (.one .bool)) (v := (.tv .bool y)) (sound_of hΦ) okP (callI_sound (sound_of hΦ) okP 1 2000) (f := Try.f22) rfl hs ha ?_ rfl site
    refine (f22.b_eq L N some d.1 d.2.1).trans ?_
    refine ((f22.b_nat (fun y => (some (.tv .bool y) : Option AV)) L N some d.1 d.2.1)).trans ?_
    rw [show f22.b L N some d.1 d.2.1 = some y from hy]
    rfl
  · intro y hy
    cases hy
def Φ22 (L N : Nat) : Tells := (addT (Φ64 L N) 22 (f22.ent L N))
theorem Φ22_ok (L N : Nat) : TellsOk Try.prog (Φ22 L N) := addT_ok (Φ64_ok L N) (f22.ok L N (Φ64_ok L N))
def f23.b' {R : Type} (L N : Nat) (self23 : Tree → Tree → Option (Bool)) (self65 : (List Tree) → (List Tree) → Option (Bool)) (k : Bool → Option R) (x0 : Tree) (x1 : Tree) : Option R :=
  bif (x0.op != x1.op) then
    k false
  else bif (x0.n != x1.n) then
    k false
  else (self65 x0.parts x1.parts).bind fun y0 =>
  bif (!y0) then
    k false
  else k true
def f23.b {R : Type} (L N : Nat) (self23 : Tree → Tree → Option (Bool)) (self65 : (List Tree) → (List Tree) → Option (Bool)) (k : Bool → Option R) (x0 : Tree) (x1 : Tree) : Option R :=
  f23.b' L N self23 self65 k x0 x1
def f65.s0' {R : Type} (L N : Nat) (self23 : Tree → Tree → Option (Bool)) (self65 : (List Tree) → (List Tree) → Option (Bool)) (k0_e0 : Option R) (k0_r : Bool → Option R) (rec0 : (List Tree) → (List Tree) → Int → Option R) (s0 : (List Tree)) (s1 : (List Tree)) (s2 : Int) : Option R :=
  bif (decide (s2 < (s0.length : Int))) then
    bif (decide (0 ≤ s2) && decide (s2 < (s0.length : Int))) then
      bif (decide (0 ≤ s2) && decide (s2 < (s1.length : Int))) then
        (self23 (listAt s0 (Ty.dflt (.st 1)) s2.toNat) (listAt s1 (Ty.dflt (.st 1)) s2.toNat)).bind fun y3 =>
        bif (!y3) then
          k0_r false
        else rec0 s0 s1 (wi (s2 + (1 : Int)))
      else none
    else none
  else k0_e0
def f65.s0 {R : Type} (L N : Nat) (self23 : Tree → Tree → Option (Bool)) (self65 : (List Tree) → (List Tree) → Option (Bool)) (k0_e0 : Option R) (k0_r : Bool → Option R) (rec0 : (List Tree) → (List Tree) → Int → Option R) (s0 : (List Tree)) (s1 : (List Tree)) (s2 : Int) : Option R :=
  f65.s0' L N self23 self65 k0_e0 k0_r rec0 s0 s1 s2
def f65.l0 {R : Type} (L N : Nat) (self23 : Tree → Tree → Option (Bool)) (self65 : (List Tree) → (List Tree) → Option (Bool)) (k0_e0 : Option R) (k0_r : Bool → Option R) : Nat → (List Tree) → (List Tree) → Int → Option R
  | 0, _, _, _ => none
  | n + 1, s0, s1, s2 => f65.s0 L N self23 self65 k0_e0 k0_r (f65.l0 L N self23 self65 k0_e0 k0_r n) s0 s1 s2
def f65.T0 (s0 : (List Tree)) (s1 : (List Tree)) (s2 : Int) : T := mkT 27 [(0, (.tv (.sl (.st 1)) s0)), (1, (.tv (.sl (.st 1)) s1)), (5, (.tv i64 s2))]
def f65.H0 (s0 : (List Tree)) (s1 : (List Tree)) (s2 : Int) : H := []
def f65.T0_e0 : T := mkT 27 []
def f65.H0_e0 : H := []
def f65.T0_r (z4 : Bool) : T := mkT 27 [(4, (.tv .bool z4))]
def f65.H0_r (z4 : Bool) : H := []
def f65.p0_e0' {R : Type} (L N : Nat) (self23 : Tree → Tree → Option (Bool)) (self65 : (List Tree) → (List Tree) → Option (Bool)) (k : Bool → Option R) : Option R :=
  k true
def f65.p0_e0 {R : Type} (L N : Nat) (self23 : Tree → Tree → Option (Bool)) (self65 : (List Tree) → (List Tree) → Option (Bool)) (k : Bool → Option R) : Option R :=
  f65.p0_e0' L N self23 self65 k
def f65.p0_r' {R : Type} (L N : Nat) (self23 : Tree → Tree → Option (Bool)) (self65 : (List Tree) → (List Tree) → Option (Bool)) (k : Bool → Option R) (z4 : Bool) : Option R :=
  k z4
def f65.p0_r {R : Type} (L N : Nat) (self23 : Tree → Tree → Option (Bool)) (self65 : (List Tree) → (List Tree) → Option (Bool)) (k : Bool → Option R) (z4 : Bool) : Option R :=
  f65.p0_r' L N self23 self65 k z4
def f65.b' {R : Type} (L N : Nat) (self23 : Tree → Tree → Option (Bool)) (self65 : (List Tree) → (List Tree) → Option (Bool)) (k : Bool → Option R) (w0 : (List Tree) → (List Tree) → Int → Option R) (x0 : (List Tree)) (x1 : (List Tree)) : Option R :=
  bif ((x0.length : Int) != (x1.length : Int)) then
    k false
  else w0 x0 x1 (0 : Int)
def f65.b {R : Type} (L N : Nat) (self23 : Tree → Tree → Option (Bool)) (self65 : (List Tree) → (List Tree) → Option (Bool)) (k : Bool → Option R) (x0 : (List Tree)) (x1 : (List Tree)) : Option R :=
  f65.b' L N self23 self65 k (fun s0 s1 s2 => f65.l0 L N self23 self65 (f65.p0_e0 L N self23 self65 k) (fun z4 => f65.p0_r L N self23 self65 k z4) L s0 s1 s2) x0 x1
mutual
def f23 (L N : Nat) : Nat → Tree → Tree → Option (Bool)
  | 0, _, _ => none
  | n + 1, x0, x1 => f23.b L N (f23 L N n) (f65 L N n) some x0 x1
def f65 (L N : Nat) : Nat → (List Tree) → (List Tree) → Option (Bool)
  | 0, _, _ => none
  | n + 1, x0, x1 => f65.b L N (f23 L N n) (f65 L N n) some x0 x1
end
def f23.ent (L N m : Nat) (args : List AV) (vw : View) (site : Nat) : Ans := match roD [(.st 1), (.st 1)] vw args with
  | some d => ⟨Bool, f23 L N m d.1 d.2.1, fun y => ((.tv .bool y), [], [])⟩
  | none => Ans.no
def f65.ent (L N m : Nat) (args : List AV) (vw : View) (site : Nat) : Ans := match roD [(.sl (.st 1)), (.sl (.st 1))] vw args with
  | some d => ⟨Bool, f65 L N m d.1 d.2.1, fun y => ((.tv .bool y), [], [])⟩
  | none => Ans.no
def Φ23s (L N m : Nat) : Tells := (addT (addT (Φ22 L N) 23 (f23.ent L N m)) 65 (f65.ent L N m))
noncomputable def E23 (L N m : Nat) : Env := { P := Try.prog, ty := tyOf, Φ := Φ23s L N m, inl := inlT, live := lives, liveX := livesX, L := L, dp := none, prom := promT, heal := healT, ren := renT }
theorem f23.b_pre {R : Type} (L N m : Nat) (κ : AV → Option R) (x0 : Tree) (x1 : Tree) :
    evBody (E23 L N m) (evCallI (E23 L N m) 1 2000) 1000 23 Try.f23 [(.tv (.st 1) x0), (.tv (.st 1) x1)] [] [] (finC (.one .bool) κ)
    = f23.b' L N (f23 L N m) (f65 L N m) (fun a0 => κ (.tv .bool a0)) x0 x1 := by kernel_rfl
theorem f23.b_eq {R : Type} (L N m : Nat) (κ : AV → Option R) (x0 : Tree) (x1 : Tree) :
    evBody (E23 L N m) (evCallI (E23 L N m) 1 2000) 1000 23 Try.f23 [(.tv (.st 1) x0), (.tv (.st 1) x1)] [] [] (finC (.one .bool) κ)
    = f23.b L N (f23 L N m) (f65 L N m) (fun a0 => κ (.tv .bool a0)) x0 x1 := by
  rw [f23.b_pre]
  unfold f23.b
  rfl
noncomputable def f65.c0 : Code := loopAt 0 (codeOf Try.f65)
theorem f65.s0_pre {R : Type} (L N m : Nat) (κ : Ex → T → H → Option R) (rec : T → H → Option R) (s0 : (List Tree)) (s1 : (List Tree)) (s2 : Int) :
    evRd (E23 L N m) (evCallI (E23 L N m) 1 2000) 1000 65 27 0 f65.c0 κ rec (f65.T0 s0 s1 s2) (f65.H0 s0 s1 s2)
    = f65.s0' L N (f23 L N m) (f65 L N m) (κ (.exit 0) f65.T0_e0 f65.H0_e0) (fun z4 => κ .ret (f65.T0_r z4) (f65.H0_r z4)) (fun s0 s1 s2 => rec (f65.T0 s0 s1 s2) (f65.H0 s0 s1 s2)) s0 s1 s2 := by kernel_rfl
theorem f65.s0_eq {R : Type} (L N m : Nat) (κ : Ex → T → H → Option R) (rec : T → H → Option R) (s0 : (List Tree)) (s1 : (List Tree)) (s2 : Int) :
    evRd (E23 L N m) (evCallI (E23 L N m) 1 2000) 1000 65 27 0 f65.c0 κ rec (f65.T0 s0 s1 s2) (f65.H0 s0 s1 s2)
    = f65.s0 L N (f23 L N m) (f65 L N m) (κ (.exit 0) f65.T0_e0 f65.H0_e0) (fun z4 => κ .ret (f65.T0_r z4) (f65.H0_r z4)) (fun s0 s1 s2 => rec (f65.T0 s0 s1 s2) (f65.H0 s0 s1 s2)) s0 s1 s2 := by
  rw [f65.s0_pre]
  unfold f65.s0
  rfl
theorem f65.l0_eq {R : Type} (L N m : Nat) (κ : Ex → T → H → Option R) : ∀ (n : Nat) (s0 : (List Tree)) (s1 : (List Tree)) (s2 : Int),
    evLp (E23 L N m) (evCallI (E23 L N m) 1 2000) 1000 65 27 0 f65.c0 κ n (f65.T0 s0 s1 s2) (f65.H0 s0 s1 s2)
    = f65.l0 L N (f23 L N m) (f65 L N m) (κ (.exit 0) f65.T0_e0 f65.H0_e0) (fun z4 => κ .ret (f65.T0_r z4) (f65.H0_r z4)) n s0 s1 s2 := by
  intro n
  induction n with
  | zero => intros; rfl
  | succ n ih =>
    intro s0 s1 s2
    rw [evLp_succ, f65.s0_eq]
    simp only [ih]
    rfl
theorem f65.p0_e0_pre {R : Type} (L N m : Nat) (κ : AV → Option R) :
    (contAt (E23 L N m) (evCallI (E23 L N m) 1 2000) 1000 65 27 0 (codeOf Try.f65) (finK (E23 L N m) 1000 Try.f65 (finC (.one .bool) κ))) (.exit 0) f65.T0_e0 f65.H0_e0
    = f65.p0_e0' L N (f23 L N m) (f65 L N m) (fun a0 => κ (.tv .bool a0)) := by kernel_rfl
theorem f65.p0_e0_eq {R : Type} (L N m : Nat) (κ : AV → Option R) :
    (contAt (E23 L N m) (evCallI (E23 L N m) 1 2000) 1000 65 27 0 (codeOf Try.f65) (finK (E23 L N m) 1000 Try.f65 (finC (.one .bool) κ))) (.exit 0) f65.T0_e0 f65.H0_e0
    = f65.p0_e0 L N (f23 L N m) (f65 L N m) (fun a0 => κ (.tv .bool a0)) := by
  rw [f65.p0_e0_pre]
  unfold f65.p0_e0
  rfl
theorem f65.p0_r_pre {R : Type} (L N m : Nat) (κ : AV → Option R) (z4 : Bool) :
    (contAt (E23 L N m) (evCallI (E23 L N m) 1 2000) 1000 65 27 0 (codeOf Try.f65) (finK (E23 L N m) 1000 Try.f65 (finC (.one .bool) κ))) .ret (f65.T0_r z4) (f65.H0_r z4)
    = f65.p0_r' L N (f23 L N m) (f65 L N m) (fun a0 => κ (.tv .bool a0)) z4 := by kernel_rfl
theorem f65.p0_r_eq {R : Type} (L N m : Nat) (κ : AV → Option R) (z4 : Bool) :
    (contAt (E23 L N m) (evCallI (E23 L N m) 1 2000) 1000 65 27 0 (codeOf Try.f65) (finK (E23 L N m) 1000 Try.f65 (finC (.one .bool) κ))) .ret (f65.T0_r z4) (f65.H0_r z4)
    = f65.p0_r L N (f23 L N m) (f65 L N m) (fun a0 => κ (.tv .bool a0)) z4 := by
  rw [f65.p0_r_pre]
  unfold f65.p0_r
  rfl
theorem f65.b_pre {R : Type} (L N m : Nat) (κ : AV → Option R) (x0 : (List Tree)) (x1 : (List Tree)) :
    evBody (E23 L N m) (evCallI (E23 L N m) 1 2000) 1000 65 Try.f65 [(.tv (.sl (.st 1)) x0), (.tv (.sl (.st 1)) x1)] [] [] (finC (.one .bool) κ)
    = f65.b' L N (f23 L N m) (f65 L N m) (fun a0 => κ (.tv .bool a0)) (fun s0 s1 s2 => evLp (E23 L N m) (evCallI (E23 L N m) 1 2000) 1000 65 27 0 f65.c0 (contAt (E23 L N m) (evCallI (E23 L N m) 1 2000) 1000 65 27 0 (codeOf Try.f65) (finK (E23 L N m) 1000 Try.f65 (finC (.one .bool) κ))) L (f65.T0 s0 s1 s2) (f65.H0 s0 s1 s2)) x0 x1 := by kernel_rfl
theorem f65.b_eq {R : Type} (L N m : Nat) (κ : AV → Option R) (x0 : (List Tree)) (x1 : (List Tree)) :
    evBody (E23 L N m) (evCallI (E23 L N m) 1 2000) 1000 65 Try.f65 [(.tv (.sl (.st 1)) x0), (.tv (.sl (.st 1)) x1)] [] [] (finC (.one .bool) κ)
    = f65.b L N (f23 L N m) (f65 L N m) (fun a0 => κ (.tv .bool a0)) x0 x1 := by
  rw [f65.b_pre]
  unfold f65.b
  simp only [f65.l0_eq, f65.p0_e0_eq, f65.p0_r_eq]
theorem f23.b'_nat {R R' : Type} (j : R → Option R') (L N : Nat) (self23 : Tree → Tree → Option (Bool)) (self65 : (List Tree) → (List Tree) → Option (Bool)) (k : Bool → Option R) (x0 : Tree) (x1 : Tree) :
    f23.b' L N self23 self65 (fun a0 => (k a0).bind j) x0 x1 = (f23.b' L N self23 self65 k x0 x1).bind j := by
  unfold f23.b'
  repeat' (first | (with_reducible refine cond_nat ?_ ?_) | (with_reducible refine bind_nat fun _ => ?_) | rfl)
theorem f23.b_nat {R R' : Type} (j : R → Option R') (L N : Nat) (self23 : Tree → Tree → Option (Bool)) (self65 : (List Tree) → (List Tree) → Option (Bool)) (k : Bool → Option R) (x0 : Tree) (x1 : Tree) :
    f23.b L N self23 self65 (fun a0 => (k a0).bind j) x0 x1 = (f23.b L N self23 self65 k x0 x1).bind j := by
  unfold f23.b
  exact f23.b'_nat ..
theorem f65.s0'_nat {R R' : Type} (j : R → Option R') (L N : Nat) (self23 : Tree → Tree → Option (Bool)) (self65 : (List Tree) → (List Tree) → Option (Bool)) (k0_e0 : Option R) (k0_r : Bool → Option R) (rec0 : (List Tree) → (List Tree) → Int → Option R) (s0 : (List Tree)) (s1 : (List Tree)) (s2 : Int) :
    f65.s0' L N self23 self65 (k0_e0.bind j) (fun a0 => (k0_r a0).bind j) (fun a0 a1 a2 => (rec0 a0 a1 a2).bind j) s0 s1 s2 = (f65.s0' L N self23 self65 k0_e0 k0_r rec0 s0 s1 s2).bind j := by
  unfold f65.s0'
  repeat' (first | (with_reducible refine cond_nat ?_ ?_) | (with_reducible refine bind_nat fun _ => ?_) | rfl)
theorem f65.s0_nat {R R' : Type} (j : R → Option R') (L N : Nat) (self23 : Tree → Tree → Option (Bool)) (self65 : (List Tree) → (List Tree) → Option (Bool)) (k0_e0 : Option R) (k0_r : Bool → Option R) (rec0 : (List Tree) → (List Tree) → Int → Option R) (s0 : (List Tree)) (s1 : (List Tree)) (s2 : Int) :
    f65.s0 L N self23 self65 (k0_e0.bind j) (fun a0 => (k0_r a0).bind j) (fun a0 a1 a2 => (rec0 a0 a1 a2).bind j) s0 s1 s2 = (f65.s0 L N self23 self65 k0_e0 k0_r rec0 s0 s1 s2).bind j := by
  unfold f65.s0
  exact f65.s0'_nat ..
theorem f65.l0_nat {R R' : Type} (j : R → Option R') (L N : Nat) (self23 : Tree → Tree → Option (Bool)) (self65 : (List Tree) → (List Tree) → Option (Bool)) (k0_e0 : Option R) (k0_r : Bool → Option R) : ∀ (n : Nat) (s0 : (List Tree)) (s1 : (List Tree)) (s2 : Int),
    f65.l0 L N self23 self65 (k0_e0.bind j) (fun a0 => (k0_r a0).bind j) n s0 s1 s2 = (f65.l0 L N self23 self65 k0_e0 k0_r n s0 s1 s2).bind j := by
  intro n
  induction n with
  | zero => intros; rfl
  | succ n ih =>
    intro s0 s1 s2
    show f65.s0 L N self23 self65 (k0_e0.bind j) (fun a0 => (k0_r a0).bind j) (f65.l0 L N self23 self65 (k0_e0.bind j) (fun a0 => (k0_r a0).bind j) n) s0 s1 s2 = _
    rw [show f65.l0 L N self23 self65 (k0_e0.bind j) (fun a0 => (k0_r a0).bind j) n = (fun s0 s1 s2 => (f65.l0 L N self23 self65 k0_e0 k0_r n s0 s1 s2).bind j) from funext fun s0 => funext fun s1 => funext fun s2 => ih s0 s1 s2]
    exact f65.s0_nat ..
theorem f65.p0_e0'_nat {R R' : Type} (j : R → Option R') (L N : Nat) (self23 : Tree → Tree → Option (Bool)) (self65 : (List Tree) → (List Tree) → Option (Bool)) (k : Bool → Option R) :
    f65.p0_e0' L N self23 self65 (fun a0 => (k a0).bind j) = (f65.p0_e0' L N self23 self65 k).bind j := by
  unfold f65.p0_e0'
  repeat' (first | (with_reducible refine cond_nat ?_ ?_) | (with_reducible refine bind_nat fun _ => ?_) | rfl)
theorem f65.p0_e0_nat {R R' : Type} (j : R → Option R') (L N : Nat) (self23 : Tree → Tree → Option (Bool)) (self65 : (List Tree) → (List Tree) → Option (Bool)) (k : Bool → Option R) :
    f65.p0_e0 L N self23 self65 (fun a0 => (k a0).bind j) = (f65.p0_e0 L N self23 self65 k).bind j := by
  unfold f65.p0_e0
  exact f65.p0_e0'_nat ..
theorem f65.p0_r'_nat {R R' : Type} (j : R → Option R') (L N : Nat) (self23 : Tree → Tree → Option (Bool)) (self65 : (List Tree) → (List Tree) → Option (Bool)) (k : Bool → Option R) (z4 : Bool) :
    f65.p0_r' L N self23 self65 (fun a0 => (k a0).bind j) z4 = (f65.p0_r' L N self23 self65 k z4).bind j := by
  unfold f65.p0_r'
  repeat' (first | (with_reducible refine cond_nat ?_ ?_) | (with_reducible refine bind_nat fun _ => ?_) | rfl)
theorem f65.p0_r_nat {R R' : Type} (j : R → Option R') (L N : Nat) (self23 : Tree → Tree → Option (Bool)) (self65 : (List Tree) → (List Tree) → Option (Bool)) (k : Bool → Option R) (z4 : Bool) :
    f65.p0_r L N self23 self65 (fun a0 => (k a0).bind j) z4 = (f65.p0_r L N self23 self65 k z4).bind j := by
  unfold f65.p0_r
  exact f65.p0_r'_nat ..
theorem f65.b'_nat {R R' : Type} (j : R → Option R') (L N : Nat) (self23 : Tree → Tree → Option (Bool)) (self65 : (List Tree) → (List Tree) → Option (Bool)) (k : Bool → Option R) (w0 : (List Tree) → (List Tree) → Int → Option R) (x0 : (List Tree)) (x1 : (List Tree)) :
    f65.b' L N self23 self65 (fun a0 => (k a0).bind j) (fun a0 a1 a2 => (w0 a0 a1 a2).bind j) x0 x1 = (f65.b' L N self23 self65 k w0 x0 x1).bind j := by
  unfold f65.b'
  repeat' (first | (with_reducible refine cond_nat ?_ ?_) | (with_reducible refine bind_nat fun _ => ?_) | rfl)
theorem f65.b_nat {R R' : Type} (j : R → Option R') (L N : Nat) (self23 : Tree → Tree → Option (Bool)) (self65 : (List Tree) → (List Tree) → Option (Bool)) (k : Bool → Option R) (x0 : (List Tree)) (x1 : (List Tree)) :
    f65.b L N self23 self65 (fun a0 => (k a0).bind j) x0 x1 = (f65.b L N self23 self65 k x0 x1).bind j := by
  unfold f65.b
  simp only [f65.l0_nat, f65.p0_e0_nat, f65.p0_r_nat]
  exact f65.b'_nat ..
theorem f23.ok (L N m : Nat) (hΦ : TellsOk Try.prog (Φ23s L N m)) : EntOk Try.prog 23 (f23.ent L N (m + 1)) := by
  intro args vw site h
  unfold f23.ent
  split
  · rename_i d ha
    intro y hy hs
    refine call_ro (dep := 1000) (E := (E23 L N m)) (rs := (.one .bool)) (v := (.tv .bool y)) (sound_of hΦ) okP (callI_sound (sound_of hΦ) okP 1 2000) (f := Try.f23) rfl hs ha ?_ rfl site
    refine (f23.b_eq L N m some d.1 d.2.1).trans ?_
    refine ((f23.b_nat (fun y => (some (.tv .bool y) : Option AV)) L N (f23 L N m) (f65 L N m) some d.1 d.2.1)).trans ?_
    rw [show f23.b L N (f23 L N m) (f65 L N m) some d.1 d.2.1 = some y from hy]
    rfl
  · intro y hy
    cases hy
theorem f65.ok (L N m : Nat) (hΦ : TellsOk Try.prog (Φ23s L N m)) : EntOk Try.prog 65 (f65.ent L N (m + 1)) := by
  intro args vw site h
  unfold f65.ent
  split
  · rename_i d ha
    intro y hy hs
    refine call_ro (dep := 1000) (E := (E23 L N m)) (rs := (.one .bool)) (v := (.tv .bool y)) (sound_of hΦ) okP (callI_sound (sound_of hΦ) okP 1 2000) (f := Try.f65) rfl hs ha ?_ rfl site
    refine (f65.b_eq L N m some d.1 d.2.1).trans ?_
    refine ((f65.b_nat (fun y => (some (.tv .bool y) : Option AV)) L N (f23 L N m) (f65 L N m) some d.1 d.2.1)).trans ?_
    rw [show f65.b L N (f23 L N m) (f65 L N m) some d.1 d.2.1 = some y from hy]
    rfl
  · intro y hy
    cases hy
theorem Φ23s_ok (L N : Nat) : ∀ m, TellsOk Try.prog (Φ23s L N m) := by
  intro m
  induction m with
  | zero => exact (addT_ok (addT_ok (Φ22_ok L N) (fun args vw site h => by unfold f23.ent; split <;> (intro y hy; cases hy))) (fun args vw site h => by unfold f65.ent; split <;> (intro y hy; cases hy)))
  | succ m ih => exact (addT_ok (addT_ok (Φ22_ok L N) (f23.ok L N m ih)) (f65.ok L N m ih))
def Φ23 (L N : Nat) : Tells := (addT (addT (Φ22 L N) 23 (f23.ent L N N)) 65 (f65.ent L N N))
theorem Φ23_ok (L N : Nat) : TellsOk Try.prog (Φ23 L N) := Φ23s_ok L N N
def f26.s0' {R : Type} (L N : Nat) (n0 : Nat) (k0_e0 : Int → (List Int) → Option R) (rec0 : Int → Int → (List Int) → Option R) (s0 : Int) (s1 : Int) (s2 : (List Int)) : Option R :=
  bif (decide (s1 < (s2.length : Int))) then
    bif (decide (0 ≤ s1) && decide (s1 < (s2.length : Int))) then
      rec0 (wi (s0 + (1 : Int))) (wi (s1 + (1 : Int))) (s2.set s1.toNat s0)
    else none
  else k0_e0 s0 s2
def f26.s0 {R : Type} (L N : Nat) (n0 : Nat) (k0_e0 : Int → (List Int) → Option R) (rec0 : Int → Int → (List Int) → Option R) (s0 : Int) (s1 : Int) (s2 : (List Int)) : Option R :=
  f26.s0' L N n0 k0_e0 rec0 s0 s1 s2
def f26.l0 {R : Type} (L N : Nat) (n0 : Nat) (k0_e0 : Int → (List Int) → Option R) : Nat → Int → Int → (List Int) → Option R
  | 0, _, _, _ => none
  | n + 1, s0, s1, s2 => f26.s0 L N n0 k0_e0 (f26.l0 L N n0 k0_e0 n) s0 s1 s2
def f26.T0 (s0 : Int) (s1 : Int) (s2 : (List Int)) : T := mkT 19 [(0, (.row 0)), (1, (.tv i64 s0)), (5, (.tv i64 s1))] ++ [.row 0]
def f26.H0 (s0 : Int) (s1 : Int) (s2 : (List Int)) : H := [(0, (.row 3 i64 s2))]
def f26.T0_e0 (z3 : Int) (z4 : (List Int)) : T := mkT 19 [(1, (.tv i64 z3))] ++ [.row 0]
def f26.H0_e0 (z3 : Int) (z4 : (List Int)) : H := [(0, (.row 3 i64 z4))]
def f26.p0_e0' {R : Type} (L N : Nat) (n0 : Nat) (k : Int → (List Int) → Option R) (z3 : Int) (z4 : (List Int)) : Option R :=
  bif (Nat.beq z4.length n0) then
    k z3 z4
  else none
def f26.p0_e0 {R : Type} (L N : Nat) (n0 : Nat) (k : Int → (List Int) → Option R) (z3 : Int) (z4 : (List Int)) : Option R :=
  f26.p0_e0' L N n0 k z3 z4
def f26.b' {R : Type} (L N : Nat) (n0 : Nat) (k : Int → (List Int) → Option R) (w0 : Int → Int → (List Int) → Option R) (oo : List Int) (x0 : Int) : Option R :=
  w0 x0 (0 : Int) oo
def f26.b {R : Type} (L N : Nat) (n0 : Nat) (k : Int → (List Int) → Option R) (oo : List Int) (x0 : Int) : Option R :=
  f26.b' L N n0 k (fun s0 s1 s2 => f26.l0 L N n0 (fun z3 z4 => f26.p0_e0 L N n0 k z3 z4) L s0 s1 s2) oo x0
def f26 (L N : Nat) (oo : List Int) (x0 : Int) : Option (Int × (List Int)) := f26.b L N oo.length (fun a0 a1 => some (a0, a1)) oo x0
def f26.ent (L N : Nat) (args : List AV) (vw : View) (site : Nat) : Ans := match ownD none 3 i64 [i64] vw args with
  | some (o, xs, d, u) => ⟨Int × (List Int), f26 L N xs d.1, fun y => ((.tv i64 y.1), u ++ [(o, some (mkO none 3 i64 y.2))], [])⟩
  | none => Ans.no
noncomputable def E26 (L N : Nat) : Env := { P := Try.prog, ty := tyOf, Φ := (Φ23 L N), inl := inlT, live := lives, liveX := livesX, L := L, dp := none, prom := promT, heal := healT, ren := renT }
noncomputable def f26.c0 : Code := loopAt 0 (codeOf Try.f26)
theorem f26.s0_pre {R : Type} (L N n0 : Nat) (κ : Ex → T → H → Option R) (rec : T → H → Option R) (s0 : Int) (s1 : Int) (s2 : (List Int)) :
    evRd (E26 L N) (evCallI (E26 L N) 1 2000) 1000 26 19 0 f26.c0 κ rec (f26.T0 s0 s1 s2) (f26.H0 s0 s1 s2)
    = f26.s0' L N n0 (fun z3 z4 => κ (.exit 0) (f26.T0_e0 z3 z4) (f26.H0_e0 z3 z4)) (fun s0 s1 s2 => rec (f26.T0 s0 s1 s2) (f26.H0 s0 s1 s2)) s0 s1 s2 := by kernel_rfl
theorem f26.s0_eq {R : Type} (L N n0 : Nat) (κ : Ex → T → H → Option R) (rec : T → H → Option R) (s0 : Int) (s1 : Int) (s2 : (List Int)) :
    evRd (E26 L N) (evCallI (E26 L N) 1 2000) 1000 26 19 0 f26.c0 κ rec (f26.T0 s0 s1 s2) (f26.H0 s0 s1 s2)
    = f26.s0 L N n0 (fun z3 z4 => κ (.exit 0) (f26.T0_e0 z3 z4) (f26.H0_e0 z3 z4)) (fun s0 s1 s2 => rec (f26.T0 s0 s1 s2) (f26.H0 s0 s1 s2)) s0 s1 s2 := by
  rw [f26.s0_pre L N n0]
  unfold f26.s0
  rfl
theorem f26.l0_eq {R : Type} (L N n0 : Nat) (κ : Ex → T → H → Option R) : ∀ (n : Nat) (s0 : Int) (s1 : Int) (s2 : (List Int)),
    evLp (E26 L N) (evCallI (E26 L N) 1 2000) 1000 26 19 0 f26.c0 κ n (f26.T0 s0 s1 s2) (f26.H0 s0 s1 s2)
    = f26.l0 L N n0 (fun z3 z4 => κ (.exit 0) (f26.T0_e0 z3 z4) (f26.H0_e0 z3 z4)) n s0 s1 s2 := by
  intro n
  induction n with
  | zero => intros; rfl
  | succ n ih =>
    intro s0 s1 s2
    rw [evLp_succ, f26.s0_eq L N n0]
    simp only [ih]
    rfl
theorem f26.p0_e0_pre {R : Type} (L N n0 : Nat) (κ : AV → List Int → Option R) (z3 : Int) (z4 : (List Int)) :
    (contAt (E26 L N) (evCallI (E26 L N) 1 2000) 1000 26 19 0 (codeOf Try.f26) (finK (E26 L N) 1000 Try.f26 (finO (.one i64) none 3 i64 n0 κ))) (.exit 0) (f26.T0_e0 z3 z4) (f26.H0_e0 z3 z4)
    = f26.p0_e0' L N n0 (fun a0 a1 => κ (.tv i64 a0) a1) z3 z4 := by kernel_rfl
theorem f26.p0_e0_eq {R : Type} (L N n0 : Nat) (κ : AV → List Int → Option R) (z3 : Int) (z4 : (List Int)) :
    (contAt (E26 L N) (evCallI (E26 L N) 1 2000) 1000 26 19 0 (codeOf Try.f26) (finK (E26 L N) 1000 Try.f26 (finO (.one i64) none 3 i64 n0 κ))) (.exit 0) (f26.T0_e0 z3 z4) (f26.H0_e0 z3 z4)
    = f26.p0_e0 L N n0 (fun a0 a1 => κ (.tv i64 a0) a1) z3 z4 := by
  rw [f26.p0_e0_pre L N n0]
  unfold f26.p0_e0
  rfl
theorem f26.b_pre {R : Type} (L N n0 : Nat) (κ : AV → List Int → Option R) (oo : List Int) (x0 : Int) :
    evBody (E26 L N) (evCallI (E26 L N) 1 2000) 1000 26 Try.f26 [(.row 0), (.tv i64 x0)] [.row 0] [(0, (.row 3 i64 oo))] (finO (.one i64) none 3 i64 n0 κ)
    = f26.b' L N n0 (fun a0 a1 => κ (.tv i64 a0) a1) (fun s0 s1 s2 => evLp (E26 L N) (evCallI (E26 L N) 1 2000) 1000 26 19 0 f26.c0 (contAt (E26 L N) (evCallI (E26 L N) 1 2000) 1000 26 19 0 (codeOf Try.f26) (finK (E26 L N) 1000 Try.f26 (finO (.one i64) none 3 i64 n0 κ))) L (f26.T0 s0 s1 s2) (f26.H0 s0 s1 s2)) oo x0 := by kernel_rfl
theorem f26.b_eq {R : Type} (L N n0 : Nat) (κ : AV → List Int → Option R) (oo : List Int) (x0 : Int) :
    evBody (E26 L N) (evCallI (E26 L N) 1 2000) 1000 26 Try.f26 [(.row 0), (.tv i64 x0)] [.row 0] [(0, (.row 3 i64 oo))] (finO (.one i64) none 3 i64 n0 κ)
    = f26.b L N n0 (fun a0 a1 => κ (.tv i64 a0) a1) oo x0 := by
  rw [f26.b_pre L N n0]
  unfold f26.b
  simp only [f26.l0_eq L N n0, f26.p0_e0_eq L N n0]
theorem f26.s0'_nat {R R' : Type} (j : R → Option R') (L N : Nat) (n0 : Nat) (k0_e0 : Int → (List Int) → Option R) (rec0 : Int → Int → (List Int) → Option R) (s0 : Int) (s1 : Int) (s2 : (List Int)) :
    f26.s0' L N n0 (fun a0 a1 => (k0_e0 a0 a1).bind j) (fun a0 a1 a2 => (rec0 a0 a1 a2).bind j) s0 s1 s2 = (f26.s0' L N n0 k0_e0 rec0 s0 s1 s2).bind j := by
  unfold f26.s0'
  repeat' (first | (with_reducible refine cond_nat ?_ ?_) | (with_reducible refine bind_nat fun _ => ?_) | rfl)
theorem f26.s0_nat {R R' : Type} (j : R → Option R') (L N : Nat) (n0 : Nat) (k0_e0 : Int → (List Int) → Option R) (rec0 : Int → Int → (List Int) → Option R) (s0 : Int) (s1 : Int) (s2 : (List Int)) :
    f26.s0 L N n0 (fun a0 a1 => (k0_e0 a0 a1).bind j) (fun a0 a1 a2 => (rec0 a0 a1 a2).bind j) s0 s1 s2 = (f26.s0 L N n0 k0_e0 rec0 s0 s1 s2).bind j := by
  unfold f26.s0
  exact f26.s0'_nat ..
theorem f26.l0_nat {R R' : Type} (j : R → Option R') (L N : Nat) (n0 : Nat) (k0_e0 : Int → (List Int) → Option R) : ∀ (n : Nat) (s0 : Int) (s1 : Int) (s2 : (List Int)),
    f26.l0 L N n0 (fun a0 a1 => (k0_e0 a0 a1).bind j) n s0 s1 s2 = (f26.l0 L N n0 k0_e0 n s0 s1 s2).bind j := by
  intro n
  induction n with
  | zero => intros; rfl
  | succ n ih =>
    intro s0 s1 s2
    show f26.s0 L N n0 (fun a0 a1 => (k0_e0 a0 a1).bind j) (f26.l0 L N n0 (fun a0 a1 => (k0_e0 a0 a1).bind j) n) s0 s1 s2 = _
    rw [show f26.l0 L N n0 (fun a0 a1 => (k0_e0 a0 a1).bind j) n = (fun s0 s1 s2 => (f26.l0 L N n0 k0_e0 n s0 s1 s2).bind j) from funext fun s0 => funext fun s1 => funext fun s2 => ih s0 s1 s2]
    exact f26.s0_nat ..
theorem f26.p0_e0'_nat {R R' : Type} (j : R → Option R') (L N : Nat) (n0 : Nat) (k : Int → (List Int) → Option R) (z3 : Int) (z4 : (List Int)) :
    f26.p0_e0' L N n0 (fun a0 a1 => (k a0 a1).bind j) z3 z4 = (f26.p0_e0' L N n0 k z3 z4).bind j := by
  unfold f26.p0_e0'
  repeat' (first | (with_reducible refine cond_nat ?_ ?_) | (with_reducible refine bind_nat fun _ => ?_) | rfl)
theorem f26.p0_e0_nat {R R' : Type} (j : R → Option R') (L N : Nat) (n0 : Nat) (k : Int → (List Int) → Option R) (z3 : Int) (z4 : (List Int)) :
    f26.p0_e0 L N n0 (fun a0 a1 => (k a0 a1).bind j) z3 z4 = (f26.p0_e0 L N n0 k z3 z4).bind j := by
  unfold f26.p0_e0
  exact f26.p0_e0'_nat ..
theorem f26.b'_nat {R R' : Type} (j : R → Option R') (L N : Nat) (n0 : Nat) (k : Int → (List Int) → Option R) (w0 : Int → Int → (List Int) → Option R) (oo : List Int) (x0 : Int) :
    f26.b' L N n0 (fun a0 a1 => (k a0 a1).bind j) (fun a0 a1 a2 => (w0 a0 a1 a2).bind j) oo x0 = (f26.b' L N n0 k w0 oo x0).bind j := by
  unfold f26.b'
  repeat' (first | (with_reducible refine cond_nat ?_ ?_) | (with_reducible refine bind_nat fun _ => ?_) | rfl)
theorem f26.b_nat {R R' : Type} (j : R → Option R') (L N : Nat) (n0 : Nat) (k : Int → (List Int) → Option R) (oo : List Int) (x0 : Int) :
    f26.b L N n0 (fun a0 a1 => (k a0 a1).bind j) oo x0 = (f26.b L N n0 k oo x0).bind j := by
  unfold f26.b
  simp only [f26.l0_nat, f26.p0_e0_nat]
  exact f26.b'_nat ..
theorem f26.ok (L N : Nat) (hΦ : TellsOk Try.prog ((Φ23 L N))) : EntOk Try.prog 26 (f26.ent L N) := by
  intro args vw site h
  unfold f26.ent
  split
  · rename_i o xs d u ha
    intro y hy hs
    obtain ⟨rest, rfl, ho, hr, hu⟩ := ownD_some ha
    refine call_own (dep := 1000) (E := (E26 L N)) (tr := [i64]) (q := none) (el := 3) (ty := i64) (rs := (.one i64)) (v' := (.tv i64 y.1)) (ys := y.2) (sound_of hΦ) okP (callI_sound (sound_of hΦ) okP 1 2000) (f := Try.f26) rfl hs ho hr hu ?_ site
    refine (f26.b_eq L N xs.length (fun v d => some (v, d)) xs d.1).trans ?_
    refine ((f26.b_nat (fun y => (some ((.tv i64 y.1), y.2) : Option (AV × List Int))) L N xs.length (fun a0 a1 => some (a0, a1)) xs d.1)).trans ?_
    rw [show f26.b L N xs.length (fun a0 a1 => some (a0, a1)) xs d.1 = some y from hy]
    rfl
  · intro y hy
    cases hy
def Φ26 (L N : Nat) : Tells := (addT (Φ23 L N) 26 (f26.ent L N))
theorem Φ26_ok (L N : Nat) : TellsOk Try.prog (Φ26 L N) := addT_ok (Φ23_ok L N) (f26.ok L N (Φ23_ok L N))
def f27.s0' {R : Type} (L N : Nat) (k0_e0 : Int → Option R) (k0_r : Int → Int → Option R) (rec0 : (List Int) → Int → Int → Option R) (s0 : (List Int)) (s1 : Int) (s2 : Int) : Option R :=
  bif (decide (s2 < (s0.length : Int))) then
    bif (decide (0 ≤ s2) && decide (s2 < (s0.length : Int))) then
      bif ((listAt s0 (0 : Int) s2.toNat) != s1) then
        k0_r s1 (-1 : Int)
      else rec0 s0 (wi (s1 + (1 : Int))) (wi (s2 + (1 : Int)))
    else none
  else k0_e0 s1
def f27.s0 {R : Type} (L N : Nat) (k0_e0 : Int → Option R) (k0_r : Int → Int → Option R) (rec0 : (List Int) → Int → Int → Option R) (s0 : (List Int)) (s1 : Int) (s2 : Int) : Option R :=
  f27.s0' L N k0_e0 k0_r rec0 s0 s1 s2
def f27.l0 {R : Type} (L N : Nat) (k0_e0 : Int → Option R) (k0_r : Int → Int → Option R) : Nat → (List Int) → Int → Int → Option R
  | 0, _, _, _ => none
  | n + 1, s0, s1, s2 => f27.s0 L N k0_e0 k0_r (f27.l0 L N k0_e0 k0_r n) s0 s1 s2
def f27.T0 (s0 : (List Int)) (s1 : Int) (s2 : Int) : T := mkT 21 [(0, (.tv (.sl i64) s0)), (1, (.tv i64 s1)), (5, (.tv i64 s2))]
def f27.H0 (s0 : (List Int)) (s1 : Int) (s2 : Int) : H := []
def f27.T0_e0 (z3 : Int) : T := mkT 21 [(1, (.tv i64 z3))]
def f27.H0_e0 (z3 : Int) : H := []
def f27.T0_r (z4 : Int) (z5 : Int) : T := mkT 21 [(1, (.tv i64 z4)), (4, (.tv i64 z5))]
def f27.H0_r (z4 : Int) (z5 : Int) : H := []
def f27.p0_e0' {R : Type} (L N : Nat) (k : Int → Option R) (z3 : Int) : Option R :=
  k z3
def f27.p0_e0 {R : Type} (L N : Nat) (k : Int → Option R) (z3 : Int) : Option R :=
  f27.p0_e0' L N k z3
def f27.p0_r' {R : Type} (L N : Nat) (k : Int → Option R) (z4 : Int) (z5 : Int) : Option R :=
  k z5
def f27.p0_r {R : Type} (L N : Nat) (k : Int → Option R) (z4 : Int) (z5 : Int) : Option R :=
  f27.p0_r' L N k z4 z5
def f27.b' {R : Type} (L N : Nat) (k : Int → Option R) (w0 : (List Int) → Int → Int → Option R) (x0 : (List Int)) (x1 : Int) : Option R :=
  w0 x0 x1 (0 : Int)
def f27.b {R : Type} (L N : Nat) (k : Int → Option R) (x0 : (List Int)) (x1 : Int) : Option R :=
  f27.b' L N k (fun s0 s1 s2 => f27.l0 L N (fun z3 => f27.p0_e0 L N k z3) (fun z4 z5 => f27.p0_r L N k z4 z5) L s0 s1 s2) x0 x1
def f27 (L N : Nat) (x0 : (List Int)) (x1 : Int) : Option (Int) := f27.b L N some x0 x1
def f27.ent (L N : Nat) (args : List AV) (vw : View) (site : Nat) : Ans := match roD [(.sl i64), i64] vw args with
  | some d => ⟨Int, f27 L N d.1 d.2.1, fun y => ((.tv i64 y), [], [])⟩
  | none => Ans.no
noncomputable def E27 (L N : Nat) : Env := { P := Try.prog, ty := tyOf, Φ := (Φ26 L N), inl := inlT, live := lives, liveX := livesX, L := L, dp := none, prom := promT, heal := healT, ren := renT }
noncomputable def f27.c0 : Code := loopAt 0 (codeOf Try.f27)
theorem f27.s0_pre {R : Type} (L N : Nat) (κ : Ex → T → H → Option R) (rec : T → H → Option R) (s0 : (List Int)) (s1 : Int) (s2 : Int) :
    evRd (E27 L N) (evCallI (E27 L N) 1 2000) 1000 27 21 0 f27.c0 κ rec (f27.T0 s0 s1 s2) (f27.H0 s0 s1 s2)
    = f27.s0' L N (fun z3 => κ (.exit 0) (f27.T0_e0 z3) (f27.H0_e0 z3)) (fun z4 z5 => κ .ret (f27.T0_r z4 z5) (f27.H0_r z4 z5)) (fun s0 s1 s2 => rec (f27.T0 s0 s1 s2) (f27.H0 s0 s1 s2)) s0 s1 s2 := by kernel_rfl
theorem f27.s0_eq {R : Type} (L N : Nat) (κ : Ex → T → H → Option R) (rec : T → H → Option R) (s0 : (List Int)) (s1 : Int) (s2 : Int) :
    evRd (E27 L N) (evCallI (E27 L N) 1 2000) 1000 27 21 0 f27.c0 κ rec (f27.T0 s0 s1 s2) (f27.H0 s0 s1 s2)
    = f27.s0 L N (fun z3 => κ (.exit 0) (f27.T0_e0 z3) (f27.H0_e0 z3)) (fun z4 z5 => κ .ret (f27.T0_r z4 z5) (f27.H0_r z4 z5)) (fun s0 s1 s2 => rec (f27.T0 s0 s1 s2) (f27.H0 s0 s1 s2)) s0 s1 s2 := by
  rw [f27.s0_pre]
  unfold f27.s0
  rfl
theorem f27.l0_eq {R : Type} (L N : Nat) (κ : Ex → T → H → Option R) : ∀ (n : Nat) (s0 : (List Int)) (s1 : Int) (s2 : Int),
    evLp (E27 L N) (evCallI (E27 L N) 1 2000) 1000 27 21 0 f27.c0 κ n (f27.T0 s0 s1 s2) (f27.H0 s0 s1 s2)
    = f27.l0 L N (fun z3 => κ (.exit 0) (f27.T0_e0 z3) (f27.H0_e0 z3)) (fun z4 z5 => κ .ret (f27.T0_r z4 z5) (f27.H0_r z4 z5)) n s0 s1 s2 := by
  intro n
  induction n with
  | zero => intros; rfl
  | succ n ih =>
    intro s0 s1 s2
    rw [evLp_succ, f27.s0_eq]
    simp only [ih]
    rfl
theorem f27.p0_e0_pre {R : Type} (L N : Nat) (κ : AV → Option R) (z3 : Int) :
    (contAt (E27 L N) (evCallI (E27 L N) 1 2000) 1000 27 21 0 (codeOf Try.f27) (finK (E27 L N) 1000 Try.f27 (finC (.one i64) κ))) (.exit 0) (f27.T0_e0 z3) (f27.H0_e0 z3)
    = f27.p0_e0' L N (fun a0 => κ (.tv i64 a0)) z3 := by kernel_rfl
theorem f27.p0_e0_eq {R : Type} (L N : Nat) (κ : AV → Option R) (z3 : Int) :
    (contAt (E27 L N) (evCallI (E27 L N) 1 2000) 1000 27 21 0 (codeOf Try.f27) (finK (E27 L N) 1000 Try.f27 (finC (.one i64) κ))) (.exit 0) (f27.T0_e0 z3) (f27.H0_e0 z3)
    = f27.p0_e0 L N (fun a0 => κ (.tv i64 a0)) z3 := by
  rw [f27.p0_e0_pre]
  unfold f27.p0_e0
  rfl
theorem f27.p0_r_pre {R : Type} (L N : Nat) (κ : AV → Option R) (z4 : Int) (z5 : Int) :
    (contAt (E27 L N) (evCallI (E27 L N) 1 2000) 1000 27 21 0 (codeOf Try.f27) (finK (E27 L N) 1000 Try.f27 (finC (.one i64) κ))) .ret (f27.T0_r z4 z5) (f27.H0_r z4 z5)
    = f27.p0_r' L N (fun a0 => κ (.tv i64 a0)) z4 z5 := by kernel_rfl
theorem f27.p0_r_eq {R : Type} (L N : Nat) (κ : AV → Option R) (z4 : Int) (z5 : Int) :
    (contAt (E27 L N) (evCallI (E27 L N) 1 2000) 1000 27 21 0 (codeOf Try.f27) (finK (E27 L N) 1000 Try.f27 (finC (.one i64) κ))) .ret (f27.T0_r z4 z5) (f27.H0_r z4 z5)
    = f27.p0_r L N (fun a0 => κ (.tv i64 a0)) z4 z5 := by
  rw [f27.p0_r_pre]
  unfold f27.p0_r
  rfl
theorem f27.b_pre {R : Type} (L N : Nat) (κ : AV → Option R) (x0 : (List Int)) (x1 : Int) :
    evBody (E27 L N) (evCallI (E27 L N) 1 2000) 1000 27 Try.f27 [(.tv (.sl i64) x0), (.tv i64 x1)] [] [] (finC (.one i64) κ)
    = f27.b' L N (fun a0 => κ (.tv i64 a0)) (fun s0 s1 s2 => evLp (E27 L N) (evCallI (E27 L N) 1 2000) 1000 27 21 0 f27.c0 (contAt (E27 L N) (evCallI (E27 L N) 1 2000) 1000 27 21 0 (codeOf Try.f27) (finK (E27 L N) 1000 Try.f27 (finC (.one i64) κ))) L (f27.T0 s0 s1 s2) (f27.H0 s0 s1 s2)) x0 x1 := by kernel_rfl
theorem f27.b_eq {R : Type} (L N : Nat) (κ : AV → Option R) (x0 : (List Int)) (x1 : Int) :
    evBody (E27 L N) (evCallI (E27 L N) 1 2000) 1000 27 Try.f27 [(.tv (.sl i64) x0), (.tv i64 x1)] [] [] (finC (.one i64) κ)
    = f27.b L N (fun a0 => κ (.tv i64 a0)) x0 x1 := by
  rw [f27.b_pre]
  unfold f27.b
  simp only [f27.l0_eq, f27.p0_e0_eq, f27.p0_r_eq]
theorem f27.s0'_nat {R R' : Type} (j : R → Option R') (L N : Nat) (k0_e0 : Int → Option R) (k0_r : Int → Int → Option R) (rec0 : (List Int) → Int → Int → Option R) (s0 : (List Int)) (s1 : Int) (s2 : Int) :
    f27.s0' L N (fun a0 => (k0_e0 a0).bind j) (fun a0 a1 => (k0_r a0 a1).bind j) (fun a0 a1 a2 => (rec0 a0 a1 a2).bind j) s0 s1 s2 = (f27.s0' L N k0_e0 k0_r rec0 s0 s1 s2).bind j := by
  unfold f27.s0'
  repeat' (first | (with_reducible refine cond_nat ?_ ?_) | (with_reducible refine bind_nat fun _ => ?_) | rfl)
theorem f27.s0_nat {R R' : Type} (j : R → Option R') (L N : Nat) (k0_e0 : Int → Option R) (k0_r : Int → Int → Option R) (rec0 : (List Int) → Int → Int → Option R) (s0 : (List Int)) (s1 : Int) (s2 : Int) :
    f27.s0 L N (fun a0 => (k0_e0 a0).bind j) (fun a0 a1 => (k0_r a0 a1).bind j) (fun a0 a1 a2 => (rec0 a0 a1 a2).bind j) s0 s1 s2 = (f27.s0 L N k0_e0 k0_r rec0 s0 s1 s2).bind j := by
  unfold f27.s0
  exact f27.s0'_nat ..
theorem f27.l0_nat {R R' : Type} (j : R → Option R') (L N : Nat) (k0_e0 : Int → Option R) (k0_r : Int → Int → Option R) : ∀ (n : Nat) (s0 : (List Int)) (s1 : Int) (s2 : Int),
    f27.l0 L N (fun a0 => (k0_e0 a0).bind j) (fun a0 a1 => (k0_r a0 a1).bind j) n s0 s1 s2 = (f27.l0 L N k0_e0 k0_r n s0 s1 s2).bind j := by
  intro n
  induction n with
  | zero => intros; rfl
  | succ n ih =>
    intro s0 s1 s2
    show f27.s0 L N (fun a0 => (k0_e0 a0).bind j) (fun a0 a1 => (k0_r a0 a1).bind j) (f27.l0 L N (fun a0 => (k0_e0 a0).bind j) (fun a0 a1 => (k0_r a0 a1).bind j) n) s0 s1 s2 = _
    rw [show f27.l0 L N (fun a0 => (k0_e0 a0).bind j) (fun a0 a1 => (k0_r a0 a1).bind j) n = (fun s0 s1 s2 => (f27.l0 L N k0_e0 k0_r n s0 s1 s2).bind j) from funext fun s0 => funext fun s1 => funext fun s2 => ih s0 s1 s2]
    exact f27.s0_nat ..
theorem f27.p0_e0'_nat {R R' : Type} (j : R → Option R') (L N : Nat) (k : Int → Option R) (z3 : Int) :
    f27.p0_e0' L N (fun a0 => (k a0).bind j) z3 = (f27.p0_e0' L N k z3).bind j := by
  unfold f27.p0_e0'
  repeat' (first | (with_reducible refine cond_nat ?_ ?_) | (with_reducible refine bind_nat fun _ => ?_) | rfl)
theorem f27.p0_e0_nat {R R' : Type} (j : R → Option R') (L N : Nat) (k : Int → Option R) (z3 : Int) :
    f27.p0_e0 L N (fun a0 => (k a0).bind j) z3 = (f27.p0_e0 L N k z3).bind j := by
  unfold f27.p0_e0
  exact f27.p0_e0'_nat ..
theorem f27.p0_r'_nat {R R' : Type} (j : R → Option R') (L N : Nat) (k : Int → Option R) (z4 : Int) (z5 : Int) :
    f27.p0_r' L N (fun a0 => (k a0).bind j) z4 z5 = (f27.p0_r' L N k z4 z5).bind j := by
  unfold f27.p0_r'
  repeat' (first | (with_reducible refine cond_nat ?_ ?_) | (with_reducible refine bind_nat fun _ => ?_) | rfl)
theorem f27.p0_r_nat {R R' : Type} (j : R → Option R') (L N : Nat) (k : Int → Option R) (z4 : Int) (z5 : Int) :
    f27.p0_r L N (fun a0 => (k a0).bind j) z4 z5 = (f27.p0_r L N k z4 z5).bind j := by
  unfold f27.p0_r
  exact f27.p0_r'_nat ..
theorem f27.b'_nat {R R' : Type} (j : R → Option R') (L N : Nat) (k : Int → Option R) (w0 : (List Int) → Int → Int → Option R) (x0 : (List Int)) (x1 : Int) :
    f27.b' L N (fun a0 => (k a0).bind j) (fun a0 a1 a2 => (w0 a0 a1 a2).bind j) x0 x1 = (f27.b' L N k w0 x0 x1).bind j := by
  unfold f27.b'
  repeat' (first | (with_reducible refine cond_nat ?_ ?_) | (with_reducible refine bind_nat fun _ => ?_) | rfl)
theorem f27.b_nat {R R' : Type} (j : R → Option R') (L N : Nat) (k : Int → Option R) (x0 : (List Int)) (x1 : Int) :
    f27.b L N (fun a0 => (k a0).bind j) x0 x1 = (f27.b L N k x0 x1).bind j := by
  unfold f27.b
  simp only [f27.l0_nat, f27.p0_e0_nat, f27.p0_r_nat]
  exact f27.b'_nat ..
theorem f27.ok (L N : Nat) (hΦ : TellsOk Try.prog ((Φ26 L N))) : EntOk Try.prog 27 (f27.ent L N) := by
  intro args vw site h
  unfold f27.ent
  split
  · rename_i d ha
    intro y hy hs
    refine call_ro (dep := 1000) (E := (E27 L N)) (rs := (.one i64)) (v := (.tv i64 y)) (sound_of hΦ) okP (callI_sound (sound_of hΦ) okP 1 2000) (f := Try.f27) rfl hs ha ?_ rfl site
    refine (f27.b_eq L N some d.1 d.2.1).trans ?_
    refine ((f27.b_nat (fun y => (some (.tv i64 y) : Option AV)) L N some d.1 d.2.1)).trans ?_
    rw [show f27.b L N some d.1 d.2.1 = some y from hy]
    rfl
  · intro y hy
    cases hy
def Φ27 (L N : Nat) : Tells := (addT (Φ26 L N) 27 (f27.ent L N))
theorem Φ27_ok (L N : Nat) : TellsOk Try.prog (Φ27 L N) := addT_ok (Φ26_ok L N) (f27.ok L N (Φ26_ok L N))
def f102.s0' {R : Type} (L N : Nat) (n0 : Nat) (k0_e0 : Int → (List Move) → Option R) (rec0 : Int → Int → (List Move) → Option R) (s0 : Int) (s1 : Int) (s2 : (List Move)) : Option R :=
  bif (decide (s1 < (s2.length : Int))) then
    bif (decide (0 ≤ s1) && decide (s1 < (s2.length : Int))) then
      bif (decide (0 ≤ s1) && decide (s1 < ((s2.set s1.toNat (Move.mk s0 ((listAt s2 (Ty.dflt (.st 0)) s1.toNat).to))).length : Int))) then
        rec0 (wi ((wi (s0 + (1 : Int))) + (1 : Int))) (wi (s1 + (1 : Int))) ((s2.set s1.toNat (Move.mk s0 ((listAt s2 (Ty.dflt (.st 0)) s1.toNat).to))).set s1.toNat (Move.mk ((listAt (s2.set s1.toNat (Move.mk s0 ((listAt s2 (Ty.dflt (.st 0)) s1.toNat).to))) (Ty.dflt (.st 0)) s1.toNat).act) (wi (s0 + (1 : Int)))))
      else none
    else none
  else k0_e0 s0 s2
def f102.s0 {R : Type} (L N : Nat) (n0 : Nat) (k0_e0 : Int → (List Move) → Option R) (rec0 : Int → Int → (List Move) → Option R) (s0 : Int) (s1 : Int) (s2 : (List Move)) : Option R :=
  f102.s0' L N n0 k0_e0 rec0 s0 s1 s2
def f102.l0 {R : Type} (L N : Nat) (n0 : Nat) (k0_e0 : Int → (List Move) → Option R) : Nat → Int → Int → (List Move) → Option R
  | 0, _, _, _ => none
  | n + 1, s0, s1, s2 => f102.s0 L N n0 k0_e0 (f102.l0 L N n0 k0_e0 n) s0 s1 s2
def f102.T0 (s0 : Int) (s1 : Int) (s2 : (List Move)) : T := mkT 27 [(0, (.row 0)), (1, (.tv i64 s0)), (5, (.tv i64 s1))] ++ [.row 0]
def f102.H0 (s0 : Int) (s1 : Int) (s2 : (List Move)) : H := [(0, (.row 53 (.st 0) s2))]
def f102.T0_e0 (z3 : Int) (z4 : (List Move)) : T := mkT 27 [(1, (.tv i64 z3))] ++ [.row 0]
def f102.H0_e0 (z3 : Int) (z4 : (List Move)) : H := [(0, (.row 53 (.st 0) z4))]
def f102.p0_e0' {R : Type} (L N : Nat) (n0 : Nat) (k : Int → (List Move) → Option R) (z3 : Int) (z4 : (List Move)) : Option R :=
  bif (Nat.beq z4.length n0) then
    k z3 z4
  else none
def f102.p0_e0 {R : Type} (L N : Nat) (n0 : Nat) (k : Int → (List Move) → Option R) (z3 : Int) (z4 : (List Move)) : Option R :=
  f102.p0_e0' L N n0 k z3 z4
def f102.b' {R : Type} (L N : Nat) (n0 : Nat) (k : Int → (List Move) → Option R) (w0 : Int → Int → (List Move) → Option R) (oo : List Move) (x0 : Int) : Option R :=
  w0 x0 (0 : Int) oo
def f102.b {R : Type} (L N : Nat) (n0 : Nat) (k : Int → (List Move) → Option R) (oo : List Move) (x0 : Int) : Option R :=
  f102.b' L N n0 k (fun s0 s1 s2 => f102.l0 L N n0 (fun z3 z4 => f102.p0_e0 L N n0 k z3 z4) L s0 s1 s2) oo x0
def f102 (L N : Nat) (oo : List Move) (x0 : Int) : Option (Int × (List Move)) := f102.b L N oo.length (fun a0 a1 => some (a0, a1)) oo x0
def f102.ent (L N : Nat) (args : List AV) (vw : View) (site : Nat) : Ans := match ownD none 53 (.st 0) [i64] vw args with
  | some (o, xs, d, u) => ⟨Int × (List Move), f102 L N xs d.1, fun y => ((.tv i64 y.1), u ++ [(o, some (mkO none 53 (.st 0) y.2))], [])⟩
  | none => Ans.no
noncomputable def E102 (L N : Nat) : Env := { P := Try.prog, ty := tyOf, Φ := (Φ27 L N), inl := inlT, live := lives, liveX := livesX, L := L, dp := none, prom := promT, heal := healT, ren := renT }
noncomputable def f102.c0 : Code := loopAt 0 (codeOf Try.f102)
theorem f102.s0_pre {R : Type} (L N n0 : Nat) (κ : Ex → T → H → Option R) (rec : T → H → Option R) (s0 : Int) (s1 : Int) (s2 : (List Move)) :
    evRd (E102 L N) (evCallI (E102 L N) 1 2000) 1000 102 27 0 f102.c0 κ rec (f102.T0 s0 s1 s2) (f102.H0 s0 s1 s2)
    = f102.s0' L N n0 (fun z3 z4 => κ (.exit 0) (f102.T0_e0 z3 z4) (f102.H0_e0 z3 z4)) (fun s0 s1 s2 => rec (f102.T0 s0 s1 s2) (f102.H0 s0 s1 s2)) s0 s1 s2 := by kernel_rfl
theorem f102.s0_eq {R : Type} (L N n0 : Nat) (κ : Ex → T → H → Option R) (rec : T → H → Option R) (s0 : Int) (s1 : Int) (s2 : (List Move)) :
    evRd (E102 L N) (evCallI (E102 L N) 1 2000) 1000 102 27 0 f102.c0 κ rec (f102.T0 s0 s1 s2) (f102.H0 s0 s1 s2)
    = f102.s0 L N n0 (fun z3 z4 => κ (.exit 0) (f102.T0_e0 z3 z4) (f102.H0_e0 z3 z4)) (fun s0 s1 s2 => rec (f102.T0 s0 s1 s2) (f102.H0 s0 s1 s2)) s0 s1 s2 := by
  rw [f102.s0_pre L N n0]
  unfold f102.s0
  rfl
theorem f102.l0_eq {R : Type} (L N n0 : Nat) (κ : Ex → T → H → Option R) : ∀ (n : Nat) (s0 : Int) (s1 : Int) (s2 : (List Move)),
    evLp (E102 L N) (evCallI (E102 L N) 1 2000) 1000 102 27 0 f102.c0 κ n (f102.T0 s0 s1 s2) (f102.H0 s0 s1 s2)
    = f102.l0 L N n0 (fun z3 z4 => κ (.exit 0) (f102.T0_e0 z3 z4) (f102.H0_e0 z3 z4)) n s0 s1 s2 := by
  intro n
  induction n with
  | zero => intros; rfl
  | succ n ih =>
    intro s0 s1 s2
    rw [evLp_succ, f102.s0_eq L N n0]
    simp only [ih]
    rfl
theorem f102.p0_e0_pre {R : Type} (L N n0 : Nat) (κ : AV → List Move → Option R) (z3 : Int) (z4 : (List Move)) :
    (contAt (E102 L N) (evCallI (E102 L N) 1 2000) 1000 102 27 0 (codeOf Try.f102) (finK (E102 L N) 1000 Try.f102 (finO (.one i64) none 53 (.st 0) n0 κ))) (.exit 0) (f102.T0_e0 z3 z4) (f102.H0_e0 z3 z4)
    = f102.p0_e0' L N n0 (fun a0 a1 => κ (.tv i64 a0) a1) z3 z4 := by kernel_rfl
theorem f102.p0_e0_eq {R : Type} (L N n0 : Nat) (κ : AV → List Move → Option R) (z3 : Int) (z4 : (List Move)) :
    (contAt (E102 L N) (evCallI (E102 L N) 1 2000) 1000 102 27 0 (codeOf Try.f102) (finK (E102 L N) 1000 Try.f102 (finO (.one i64) none 53 (.st 0) n0 κ))) (.exit 0) (f102.T0_e0 z3 z4) (f102.H0_e0 z3 z4)
    = f102.p0_e0 L N n0 (fun a0 a1 => κ (.tv i64 a0) a1) z3 z4 := by
  rw [f102.p0_e0_pre L N n0]
  unfold f102.p0_e0
  rfl
theorem f102.b_pre {R : Type} (L N n0 : Nat) (κ : AV → List Move → Option R) (oo : List Move) (x0 : Int) :
    evBody (E102 L N) (evCallI (E102 L N) 1 2000) 1000 102 Try.f102 [(.row 0), (.tv i64 x0)] [.row 0] [(0, (.row 53 (.st 0) oo))] (finO (.one i64) none 53 (.st 0) n0 κ)
    = f102.b' L N n0 (fun a0 a1 => κ (.tv i64 a0) a1) (fun s0 s1 s2 => evLp (E102 L N) (evCallI (E102 L N) 1 2000) 1000 102 27 0 f102.c0 (contAt (E102 L N) (evCallI (E102 L N) 1 2000) 1000 102 27 0 (codeOf Try.f102) (finK (E102 L N) 1000 Try.f102 (finO (.one i64) none 53 (.st 0) n0 κ))) L (f102.T0 s0 s1 s2) (f102.H0 s0 s1 s2)) oo x0 := by kernel_rfl
theorem f102.b_eq {R : Type} (L N n0 : Nat) (κ : AV → List Move → Option R) (oo : List Move) (x0 : Int) :
    evBody (E102 L N) (evCallI (E102 L N) 1 2000) 1000 102 Try.f102 [(.row 0), (.tv i64 x0)] [.row 0] [(0, (.row 53 (.st 0) oo))] (finO (.one i64) none 53 (.st 0) n0 κ)
    = f102.b L N n0 (fun a0 a1 => κ (.tv i64 a0) a1) oo x0 := by
  rw [f102.b_pre L N n0]
  unfold f102.b
  simp only [f102.l0_eq L N n0, f102.p0_e0_eq L N n0]
theorem f102.s0'_nat {R R' : Type} (j : R → Option R') (L N : Nat) (n0 : Nat) (k0_e0 : Int → (List Move) → Option R) (rec0 : Int → Int → (List Move) → Option R) (s0 : Int) (s1 : Int) (s2 : (List Move)) :
    f102.s0' L N n0 (fun a0 a1 => (k0_e0 a0 a1).bind j) (fun a0 a1 a2 => (rec0 a0 a1 a2).bind j) s0 s1 s2 = (f102.s0' L N n0 k0_e0 rec0 s0 s1 s2).bind j := by
  unfold f102.s0'
  repeat' (first | (with_reducible refine cond_nat ?_ ?_) | (with_reducible refine bind_nat fun _ => ?_) | rfl)
theorem f102.s0_nat {R R' : Type} (j : R → Option R') (L N : Nat) (n0 : Nat) (k0_e0 : Int → (List Move) → Option R) (rec0 : Int → Int → (List Move) → Option R) (s0 : Int) (s1 : Int) (s2 : (List Move)) :
    f102.s0 L N n0 (fun a0 a1 => (k0_e0 a0 a1).bind j) (fun a0 a1 a2 => (rec0 a0 a1 a2).bind j) s0 s1 s2 = (f102.s0 L N n0 k0_e0 rec0 s0 s1 s2).bind j := by
  unfold f102.s0
  exact f102.s0'_nat ..
theorem f102.l0_nat {R R' : Type} (j : R → Option R') (L N : Nat) (n0 : Nat) (k0_e0 : Int → (List Move) → Option R) : ∀ (n : Nat) (s0 : Int) (s1 : Int) (s2 : (List Move)),
    f102.l0 L N n0 (fun a0 a1 => (k0_e0 a0 a1).bind j) n s0 s1 s2 = (f102.l0 L N n0 k0_e0 n s0 s1 s2).bind j := by
  intro n
  induction n with
  | zero => intros; rfl
  | succ n ih =>
    intro s0 s1 s2
    show f102.s0 L N n0 (fun a0 a1 => (k0_e0 a0 a1).bind j) (f102.l0 L N n0 (fun a0 a1 => (k0_e0 a0 a1).bind j) n) s0 s1 s2 = _
    rw [show f102.l0 L N n0 (fun a0 a1 => (k0_e0 a0 a1).bind j) n = (fun s0 s1 s2 => (f102.l0 L N n0 k0_e0 n s0 s1 s2).bind j) from funext fun s0 => funext fun s1 => funext fun s2 => ih s0 s1 s2]
    exact f102.s0_nat ..
theorem f102.p0_e0'_nat {R R' : Type} (j : R → Option R') (L N : Nat) (n0 : Nat) (k : Int → (List Move) → Option R) (z3 : Int) (z4 : (List Move)) :
    f102.p0_e0' L N n0 (fun a0 a1 => (k a0 a1).bind j) z3 z4 = (f102.p0_e0' L N n0 k z3 z4).bind j := by
  unfold f102.p0_e0'
  repeat' (first | (with_reducible refine cond_nat ?_ ?_) | (with_reducible refine bind_nat fun _ => ?_) | rfl)
theorem f102.p0_e0_nat {R R' : Type} (j : R → Option R') (L N : Nat) (n0 : Nat) (k : Int → (List Move) → Option R) (z3 : Int) (z4 : (List Move)) :
    f102.p0_e0 L N n0 (fun a0 a1 => (k a0 a1).bind j) z3 z4 = (f102.p0_e0 L N n0 k z3 z4).bind j := by
  unfold f102.p0_e0
  exact f102.p0_e0'_nat ..
theorem f102.b'_nat {R R' : Type} (j : R → Option R') (L N : Nat) (n0 : Nat) (k : Int → (List Move) → Option R) (w0 : Int → Int → (List Move) → Option R) (oo : List Move) (x0 : Int) :
    f102.b' L N n0 (fun a0 a1 => (k a0 a1).bind j) (fun a0 a1 a2 => (w0 a0 a1 a2).bind j) oo x0 = (f102.b' L N n0 k w0 oo x0).bind j := by
  unfold f102.b'
  repeat' (first | (with_reducible refine cond_nat ?_ ?_) | (with_reducible refine bind_nat fun _ => ?_) | rfl)
theorem f102.b_nat {R R' : Type} (j : R → Option R') (L N : Nat) (n0 : Nat) (k : Int → (List Move) → Option R) (oo : List Move) (x0 : Int) :
    f102.b L N n0 (fun a0 a1 => (k a0 a1).bind j) oo x0 = (f102.b L N n0 k oo x0).bind j := by
  unfold f102.b
  simp only [f102.l0_nat, f102.p0_e0_nat]
  exact f102.b'_nat ..
theorem f102.ok (L N : Nat) (hΦ : TellsOk Try.prog ((Φ27 L N))) : EntOk Try.prog 102 (f102.ent L N) := by
  intro args vw site h
  unfold f102.ent
  split
  · rename_i o xs d u ha
    intro y hy hs
    obtain ⟨rest, rfl, ho, hr, hu⟩ := ownD_some ha
    refine call_own (dep := 1000) (E := (E102 L N)) (tr := [i64]) (q := none) (el := 53) (ty := (.st 0)) (rs := (.one i64)) (v' := (.tv i64 y.1)) (ys := y.2) (sound_of hΦ) okP (callI_sound (sound_of hΦ) okP 1 2000) (f := Try.f102) rfl hs ho hr hu ?_ site
    refine (f102.b_eq L N xs.length (fun v d => some (v, d)) xs d.1).trans ?_
    refine ((f102.b_nat (fun y => (some ((.tv i64 y.1), y.2) : Option (AV × List Move))) L N xs.length (fun a0 a1 => some (a0, a1)) xs d.1)).trans ?_
    rw [show f102.b L N xs.length (fun a0 a1 => some (a0, a1)) xs d.1 = some y from hy]
    rfl
  · intro y hy
    cases hy
def Φ102 (L N : Nat) : Tells := (addT (Φ27 L N) 102 (f102.ent L N))
theorem Φ102_ok (L N : Nat) : TellsOk Try.prog (Φ102 L N) := addT_ok (Φ27_ok L N) (f102.ok L N (Φ27_ok L N))
def f66.s0' {R : Type} (L N : Nat) (n0 : Nat) (k0_e0 : Int → (List (List Move)) → Option R) (rec0 : Int → Int → (List (List Move)) → Option R) (s0 : Int) (s1 : Int) (s2 : (List (List Move))) : Option R :=
  bif (decide (s1 < (s2.length : Int))) then
    bif (decide (0 ≤ s1) && decide (s1 < (s2.length : Int))) then
      (f102 L N (listAt s2 [] s1.toNat) s0).bind fun y5 =>
      rec0 y5.1 (wi (s1 + (1 : Int))) (s2.set s1.toNat y5.2)
    else none
  else k0_e0 s0 s2
def f66.s0 {R : Type} (L N : Nat) (n0 : Nat) (k0_e0 : Int → (List (List Move)) → Option R) (rec0 : Int → Int → (List (List Move)) → Option R) (s0 : Int) (s1 : Int) (s2 : (List (List Move))) : Option R :=
  f66.s0' L N n0 k0_e0 rec0 s0 s1 s2
def f66.l0 {R : Type} (L N : Nat) (n0 : Nat) (k0_e0 : Int → (List (List Move)) → Option R) : Nat → Int → Int → (List (List Move)) → Option R
  | 0, _, _, _ => none
  | n + 1, s0, s1, s2 => f66.s0 L N n0 k0_e0 (f66.l0 L N n0 k0_e0 n) s0 s1 s2
def f66.T0 (s0 : Int) (s1 : Int) (s2 : (List (List Move))) : T := mkT 19 [(0, (.row 0)), (1, (.tv i64 s0)), (5, (.tv i64 s1))] ++ [.row 0]
def f66.H0 (s0 : Int) (s1 : Int) (s2 : (List (List Move))) : H := [(0, (.deep 0 (.sl (.st 0)) s2 none))]
def f66.T0_e0 (z3 : Int) (z4 : (List (List Move))) : T := mkT 19 [(1, (.tv i64 z3))] ++ [.row 0]
def f66.H0_e0 (z3 : Int) (z4 : (List (List Move))) : H := [(0, (.deep 0 (.sl (.st 0)) z4 none))]
def f66.p0_e0' {R : Type} (L N : Nat) (n0 : Nat) (k : Int → (List (List Move)) → Option R) (z3 : Int) (z4 : (List (List Move))) : Option R :=
  bif (Nat.beq z4.length n0) then
    k z3 z4
  else none
def f66.p0_e0 {R : Type} (L N : Nat) (n0 : Nat) (k : Int → (List (List Move)) → Option R) (z3 : Int) (z4 : (List (List Move))) : Option R :=
  f66.p0_e0' L N n0 k z3 z4
def f66.b' {R : Type} (L N : Nat) (n0 : Nat) (k : Int → (List (List Move)) → Option R) (w0 : Int → Int → (List (List Move)) → Option R) (oo : List (List Move)) (x0 : Int) : Option R :=
  w0 x0 (0 : Int) oo
def f66.b {R : Type} (L N : Nat) (n0 : Nat) (k : Int → (List (List Move)) → Option R) (oo : List (List Move)) (x0 : Int) : Option R :=
  f66.b' L N n0 k (fun s0 s1 s2 => f66.l0 L N n0 (fun z3 z4 => f66.p0_e0 L N n0 k z3 z4) L s0 s1 s2) oo x0
def f66 (L N : Nat) (oo : List (List Move)) (x0 : Int) : Option (Int × (List (List Move))) := f66.b L N oo.length (fun a0 a1 => some (a0, a1)) oo x0
def f66.ent (L N : Nat) (args : List AV) (vw : View) (site : Nat) : Ans := match ownD (some 0) 51 (.sl (.st 0)) [i64] vw args with
  | some (o, xs, d, u) => ⟨Int × (List (List Move)), f66 L N xs d.1, fun y => ((.tv i64 y.1), u ++ [(o, some (mkO (some 0) 51 (.sl (.st 0)) y.2))], [])⟩
  | none => Ans.no
noncomputable def E66 (L N : Nat) : Env := { P := Try.prog, ty := tyOf, Φ := (Φ102 L N), inl := inlT, live := lives, liveX := livesX, L := L, dp := none, prom := promT, heal := healT, ren := renT }
noncomputable def f66.c0 : Code := loopAt 0 (codeOf Try.f66)
theorem f66.s0_pre {R : Type} (L N n0 : Nat) (κ : Ex → T → H → Option R) (rec : T → H → Option R) (s0 : Int) (s1 : Int) (s2 : (List (List Move))) :
    evRd (E66 L N) (evCallI (E66 L N) 1 2000) 1000 66 19 0 f66.c0 κ rec (f66.T0 s0 s1 s2) (f66.H0 s0 s1 s2)
    = f66.s0' L N n0 (fun z3 z4 => κ (.exit 0) (f66.T0_e0 z3 z4) (f66.H0_e0 z3 z4)) (fun s0 s1 s2 => rec (f66.T0 s0 s1 s2) (f66.H0 s0 s1 s2)) s0 s1 s2 := by kernel_rfl
theorem f66.s0_eq {R : Type} (L N n0 : Nat) (κ : Ex → T → H → Option R) (rec : T → H → Option R) (s0 : Int) (s1 : Int) (s2 : (List (List Move))) :
    evRd (E66 L N) (evCallI (E66 L N) 1 2000) 1000 66 19 0 f66.c0 κ rec (f66.T0 s0 s1 s2) (f66.H0 s0 s1 s2)
    = f66.s0 L N n0 (fun z3 z4 => κ (.exit 0) (f66.T0_e0 z3 z4) (f66.H0_e0 z3 z4)) (fun s0 s1 s2 => rec (f66.T0 s0 s1 s2) (f66.H0 s0 s1 s2)) s0 s1 s2 := by
  rw [f66.s0_pre L N n0]
  unfold f66.s0
  rfl
theorem f66.l0_eq {R : Type} (L N n0 : Nat) (κ : Ex → T → H → Option R) : ∀ (n : Nat) (s0 : Int) (s1 : Int) (s2 : (List (List Move))),
    evLp (E66 L N) (evCallI (E66 L N) 1 2000) 1000 66 19 0 f66.c0 κ n (f66.T0 s0 s1 s2) (f66.H0 s0 s1 s2)
    = f66.l0 L N n0 (fun z3 z4 => κ (.exit 0) (f66.T0_e0 z3 z4) (f66.H0_e0 z3 z4)) n s0 s1 s2 := by
  intro n
  induction n with
  | zero => intros; rfl
  | succ n ih =>
    intro s0 s1 s2
    rw [evLp_succ, f66.s0_eq L N n0]
    simp only [ih]
    rfl
theorem f66.p0_e0_pre {R : Type} (L N n0 : Nat) (κ : AV → List (List Move) → Option R) (z3 : Int) (z4 : (List (List Move))) :
    (contAt (E66 L N) (evCallI (E66 L N) 1 2000) 1000 66 19 0 (codeOf Try.f66) (finK (E66 L N) 1000 Try.f66 (finO (.one i64) (some 0) 51 (.sl (.st 0)) n0 κ))) (.exit 0) (f66.T0_e0 z3 z4) (f66.H0_e0 z3 z4)
    = f66.p0_e0' L N n0 (fun a0 a1 => κ (.tv i64 a0) a1) z3 z4 := by kernel_rfl
theorem f66.p0_e0_eq {R : Type} (L N n0 : Nat) (κ : AV → List (List Move) → Option R) (z3 : Int) (z4 : (List (List Move))) :
    (contAt (E66 L N) (evCallI (E66 L N) 1 2000) 1000 66 19 0 (codeOf Try.f66) (finK (E66 L N) 1000 Try.f66 (finO (.one i64) (some 0) 51 (.sl (.st 0)) n0 κ))) (.exit 0) (f66.T0_e0 z3 z4) (f66.H0_e0 z3 z4)
    = f66.p0_e0 L N n0 (fun a0 a1 => κ (.tv i64 a0) a1) z3 z4 := by
  rw [f66.p0_e0_pre L N n0]
  unfold f66.p0_e0
  rfl
theorem f66.b_pre {R : Type} (L N n0 : Nat) (κ : AV → List (List Move) → Option R) (oo : List (List Move)) (x0 : Int) :
    evBody (E66 L N) (evCallI (E66 L N) 1 2000) 1000 66 Try.f66 [(.row 0), (.tv i64 x0)] [.row 0] [(0, (.deep 0 (.sl (.st 0)) oo none))] (finO (.one i64) (some 0) 51 (.sl (.st 0)) n0 κ)
    = f66.b' L N n0 (fun a0 a1 => κ (.tv i64 a0) a1) (fun s0 s1 s2 => evLp (E66 L N) (evCallI (E66 L N) 1 2000) 1000 66 19 0 f66.c0 (contAt (E66 L N) (evCallI (E66 L N) 1 2000) 1000 66 19 0 (codeOf Try.f66) (finK (E66 L N) 1000 Try.f66 (finO (.one i64) (some 0) 51 (.sl (.st 0)) n0 κ))) L (f66.T0 s0 s1 s2) (f66.H0 s0 s1 s2)) oo x0 := by kernel_rfl
theorem f66.b_eq {R : Type} (L N n0 : Nat) (κ : AV → List (List Move) → Option R) (oo : List (List Move)) (x0 : Int) :
    evBody (E66 L N) (evCallI (E66 L N) 1 2000) 1000 66 Try.f66 [(.row 0), (.tv i64 x0)] [.row 0] [(0, (.deep 0 (.sl (.st 0)) oo none))] (finO (.one i64) (some 0) 51 (.sl (.st 0)) n0 κ)
    = f66.b L N n0 (fun a0 a1 => κ (.tv i64 a0) a1) oo x0 := by
  rw [f66.b_pre L N n0]
  unfold f66.b
  simp only [f66.l0_eq L N n0, f66.p0_e0_eq L N n0]
theorem f66.s0'_nat {R R' : Type} (j : R → Option R') (L N : Nat) (n0 : Nat) (k0_e0 : Int → (List (List Move)) → Option R) (rec0 : Int → Int → (List (List Move)) → Option R) (s0 : Int) (s1 : Int) (s2 : (List (List Move))) :
    f66.s0' L N n0 (fun a0 a1 => (k0_e0 a0 a1).bind j) (fun a0 a1 a2 => (rec0 a0 a1 a2).bind j) s0 s1 s2 = (f66.s0' L N n0 k0_e0 rec0 s0 s1 s2).bind j := by
  unfold f66.s0'
  repeat' (first | (with_reducible refine cond_nat ?_ ?_) | (with_reducible refine bind_nat fun _ => ?_) | rfl)
theorem f66.s0_nat {R R' : Type} (j : R → Option R') (L N : Nat) (n0 : Nat) (k0_e0 : Int → (List (List Move)) → Option R) (rec0 : Int → Int → (List (List Move)) → Option R) (s0 : Int) (s1 : Int) (s2 : (List (List Move))) :
    f66.s0 L N n0 (fun a0 a1 => (k0_e0 a0 a1).bind j) (fun a0 a1 a2 => (rec0 a0 a1 a2).bind j) s0 s1 s2 = (f66.s0 L N n0 k0_e0 rec0 s0 s1 s2).bind j := by
  unfold f66.s0
  exact f66.s0'_nat ..
theorem f66.l0_nat {R R' : Type} (j : R → Option R') (L N : Nat) (n0 : Nat) (k0_e0 : Int → (List (List Move)) → Option R) : ∀ (n : Nat) (s0 : Int) (s1 : Int) (s2 : (List (List Move))),
    f66.l0 L N n0 (fun a0 a1 => (k0_e0 a0 a1).bind j) n s0 s1 s2 = (f66.l0 L N n0 k0_e0 n s0 s1 s2).bind j := by
  intro n
  induction n with
  | zero => intros; rfl
  | succ n ih =>
    intro s0 s1 s2
    show f66.s0 L N n0 (fun a0 a1 => (k0_e0 a0 a1).bind j) (f66.l0 L N n0 (fun a0 a1 => (k0_e0 a0 a1).bind j) n) s0 s1 s2 = _
    rw [show f66.l0 L N n0 (fun a0 a1 => (k0_e0 a0 a1).bind j) n = (fun s0 s1 s2 => (f66.l0 L N n0 k0_e0 n s0 s1 s2).bind j) from funext fun s0 => funext fun s1 => funext fun s2 => ih s0 s1 s2]
    exact f66.s0_nat ..
theorem f66.p0_e0'_nat {R R' : Type} (j : R → Option R') (L N : Nat) (n0 : Nat) (k : Int → (List (List Move)) → Option R) (z3 : Int) (z4 : (List (List Move))) :
    f66.p0_e0' L N n0 (fun a0 a1 => (k a0 a1).bind j) z3 z4 = (f66.p0_e0' L N n0 k z3 z4).bind j := by
  unfold f66.p0_e0'
  repeat' (first | (with_reducible refine cond_nat ?_ ?_) | (with_reducible refine bind_nat fun _ => ?_) | rfl)
theorem f66.p0_e0_nat {R R' : Type} (j : R → Option R') (L N : Nat) (n0 : Nat) (k : Int → (List (List Move)) → Option R) (z3 : Int) (z4 : (List (List Move))) :
    f66.p0_e0 L N n0 (fun a0 a1 => (k a0 a1).bind j) z3 z4 = (f66.p0_e0 L N n0 k z3 z4).bind j := by
  unfold f66.p0_e0
  exact f66.p0_e0'_nat ..
theorem f66.b'_nat {R R' : Type} (j : R → Option R') (L N : Nat) (n0 : Nat) (k : Int → (List (List Move)) → Option R) (w0 : Int → Int → (List (List Move)) → Option R) (oo : List (List Move)) (x0 : Int) :
    f66.b' L N n0 (fun a0 a1 => (k a0 a1).bind j) (fun a0 a1 a2 => (w0 a0 a1 a2).bind j) oo x0 = (f66.b' L N n0 k w0 oo x0).bind j := by
  unfold f66.b'
  repeat' (first | (with_reducible refine cond_nat ?_ ?_) | (with_reducible refine bind_nat fun _ => ?_) | rfl)
theorem f66.b_nat {R R' : Type} (j : R → Option R') (L N : Nat) (n0 : Nat) (k : Int → (List (List Move)) → Option R) (oo : List (List Move)) (x0 : Int) :
    f66.b L N n0 (fun a0 a1 => (k a0 a1).bind j) oo x0 = (f66.b L N n0 k oo x0).bind j := by
  unfold f66.b
  simp only [f66.l0_nat, f66.p0_e0_nat]
  exact f66.b'_nat ..
theorem f66.ok (L N : Nat) (hΦ : TellsOk Try.prog ((Φ102 L N))) : EntOk Try.prog 66 (f66.ent L N) := by
  intro args vw site h
  unfold f66.ent
  split
  · rename_i o xs d u ha
    intro y hy hs
    obtain ⟨rest, rfl, ho, hr, hu⟩ := ownD_some ha
    refine call_own (dep := 1000) (E := (E66 L N)) (tr := [i64]) (q := (some 0)) (el := 51) (ty := (.sl (.st 0))) (rs := (.one i64)) (v' := (.tv i64 y.1)) (ys := y.2) (sound_of hΦ) okP (callI_sound (sound_of hΦ) okP 1 2000) (f := Try.f66) rfl hs ho hr hu ?_ site
    refine (f66.b_eq L N xs.length (fun v d => some (v, d)) xs d.1).trans ?_
    refine ((f66.b_nat (fun y => (some ((.tv i64 y.1), y.2) : Option (AV × List (List Move)))) L N xs.length (fun a0 a1 => some (a0, a1)) xs d.1)).trans ?_
    rw [show f66.b L N xs.length (fun a0 a1 => some (a0, a1)) xs d.1 = some y from hy]
    rfl
  · intro y hy
    cases hy
def Φ66 (L N : Nat) : Tells := (addT (Φ102 L N) 66 (f66.ent L N))
theorem Φ66_ok (L N : Nat) : TellsOk Try.prog (Φ66 L N) := addT_ok (Φ102_ok L N) (f66.ok L N (Φ102_ok L N))
def f67.s0' {R : Type} (L N : Nat) (self67 : (List Tree) → Int → Option (Int × (List Tree))) (n0 : Nat) (k0_e0 : Int → (List Tree) → Option R) (rec0 : Int → Int → (List Tree) → Option R) (s0 : Int) (s1 : Int) (s2 : (List Tree)) : Option R :=
  bif (decide (s1 < (s2.length : Int))) then
    bif (decide (0 ≤ s1) && decide (s1 < (s2.length : Int))) then
      bif (decide (0 ≤ s1) && decide (s1 < ((s2.set s1.toNat (Tree.mk s0 ((listAt s2 (Ty.dflt (.st 1)) s1.toNat).n) ((listAt s2 (Ty.dflt (.st 1)) s1.toNat).parts))).length : Int))) then
        bif (decide (0 ≤ s1) && decide (s1 < (((s2.set s1.toNat (Tree.mk s0 ((listAt s2 (Ty.dflt (.st 1)) s1.toNat).n) ((listAt s2 (Ty.dflt (.st 1)) s1.toNat).parts))).set s1.toNat (Tree.mk ((listAt (s2.set s1.toNat (Tree.mk s0 ((listAt s2 (Ty.dflt (.st 1)) s1.toNat).n) ((listAt s2 (Ty.dflt (.st 1)) s1.toNat).parts))) (Ty.dflt (.st 1)) s1.toNat).op) (wi (s0 + (1 : Int))) ((listAt (s2.set s1.toNat (Tree.mk s0 ((listAt s2 (Ty.dflt (.st 1)) s1.toNat).n) ((listAt s2 (Ty.dflt (.st 1)) s1.toNat).parts))) (Ty.dflt (.st 1)) s1.toNat).parts))).length : Int))) then
          (self67 ((listAt ((s2.set s1.toNat (Tree.mk s0 ((listAt s2 (Ty.dflt (.st 1)) s1.toNat).n) ((listAt s2 (Ty.dflt (.st 1)) s1.toNat).parts))).set s1.toNat (Tree.mk ((listAt (s2.set s1.toNat (Tree.mk s0 ((listAt s2 (Ty.dflt (.st 1)) s1.toNat).n) ((listAt s2 (Ty.dflt (.st 1)) s1.toNat).parts))) (Ty.dflt (.st 1)) s1.toNat).op) (wi (s0 + (1 : Int))) ((listAt (s2.set s1.toNat (Tree.mk s0 ((listAt s2 (Ty.dflt (.st 1)) s1.toNat).n) ((listAt s2 (Ty.dflt (.st 1)) s1.toNat).parts))) (Ty.dflt (.st 1)) s1.toNat).parts))) (Ty.dflt (.st 1)) s1.toNat).parts) (wi ((wi (s0 + (1 : Int))) + (1 : Int)))).bind fun y5 =>
          rec0 y5.1 (wi (s1 + (1 : Int))) (((s2.set s1.toNat (Tree.mk s0 ((listAt s2 (Ty.dflt (.st 1)) s1.toNat).n) ((listAt s2 (Ty.dflt (.st 1)) s1.toNat).parts))).set s1.toNat (Tree.mk ((listAt (s2.set s1.toNat (Tree.mk s0 ((listAt s2 (Ty.dflt (.st 1)) s1.toNat).n) ((listAt s2 (Ty.dflt (.st 1)) s1.toNat).parts))) (Ty.dflt (.st 1)) s1.toNat).op) (wi (s0 + (1 : Int))) ((listAt (s2.set s1.toNat (Tree.mk s0 ((listAt s2 (Ty.dflt (.st 1)) s1.toNat).n) ((listAt s2 (Ty.dflt (.st 1)) s1.toNat).parts))) (Ty.dflt (.st 1)) s1.toNat).parts))).set s1.toNat (Tree.mk ((listAt ((s2.set s1.toNat (Tree.mk s0 ((listAt s2 (Ty.dflt (.st 1)) s1.toNat).n) ((listAt s2 (Ty.dflt (.st 1)) s1.toNat).parts))).set s1.toNat (Tree.mk ((listAt (s2.set s1.toNat (Tree.mk s0 ((listAt s2 (Ty.dflt (.st 1)) s1.toNat).n) ((listAt s2 (Ty.dflt (.st 1)) s1.toNat).parts))) (Ty.dflt (.st 1)) s1.toNat).op) (wi (s0 + (1 : Int))) ((listAt (s2.set s1.toNat (Tree.mk s0 ((listAt s2 (Ty.dflt (.st 1)) s1.toNat).n) ((listAt s2 (Ty.dflt (.st 1)) s1.toNat).parts))) (Ty.dflt (.st 1)) s1.toNat).parts))) (Ty.dflt (.st 1)) s1.toNat).op) ((listAt ((s2.set s1.toNat (Tree.mk s0 ((listAt s2 (Ty.dflt (.st 1)) s1.toNat).n) ((listAt s2 (Ty.dflt (.st 1)) s1.toNat).parts))).set s1.toNat (Tree.mk ((listAt (s2.set s1.toNat (Tree.mk s0 ((listAt s2 (Ty.dflt (.st 1)) s1.toNat).n) ((listAt s2 (Ty.dflt (.st 1)) s1.toNat).parts))) (Ty.dflt (.st 1)) s1.toNat).op) (wi (s0 + (1 : Int))) ((listAt (s2.set s1.toNat (Tree.mk s0 ((listAt s2 (Ty.dflt (.st 1)) s1.toNat).n) ((listAt s2 (Ty.dflt (.st 1)) s1.toNat).parts))) (Ty.dflt (.st 1)) s1.toNat).parts))) (Ty.dflt (.st 1)) s1.toNat).n) y5.2))
        else none
      else none
    else none
  else k0_e0 s0 s2
def f67.s0 {R : Type} (L N : Nat) (self67 : (List Tree) → Int → Option (Int × (List Tree))) (n0 : Nat) (k0_e0 : Int → (List Tree) → Option R) (rec0 : Int → Int → (List Tree) → Option R) (s0 : Int) (s1 : Int) (s2 : (List Tree)) : Option R :=
  f67.s0' L N self67 n0 k0_e0 rec0 s0 s1 s2
def f67.l0 {R : Type} (L N : Nat) (self67 : (List Tree) → Int → Option (Int × (List Tree))) (n0 : Nat) (k0_e0 : Int → (List Tree) → Option R) : Nat → Int → Int → (List Tree) → Option R
  | 0, _, _, _ => none
  | n + 1, s0, s1, s2 => f67.s0 L N self67 n0 k0_e0 (f67.l0 L N self67 n0 k0_e0 n) s0 s1 s2
def f67.T0 (s0 : Int) (s1 : Int) (s2 : (List Tree)) : T := mkT 34 [(0, (.row 0)), (1, (.tv i64 s0)), (5, (.tv i64 s1))] ++ [.row 0]
def f67.H0 (s0 : Int) (s1 : Int) (s2 : (List Tree)) : H := [(0, (.deep 1 (.st 1) s2 none))]
def f67.T0_e0 (z3 : Int) (z4 : (List Tree)) : T := mkT 34 [(1, (.tv i64 z3))] ++ [.row 0]
def f67.H0_e0 (z3 : Int) (z4 : (List Tree)) : H := [(0, (.deep 1 (.st 1) z4 none))]
def f67.p0_e0' {R : Type} (L N : Nat) (self67 : (List Tree) → Int → Option (Int × (List Tree))) (n0 : Nat) (k : Int → (List Tree) → Option R) (z3 : Int) (z4 : (List Tree)) : Option R :=
  bif (Nat.beq z4.length n0) then
    k z3 z4
  else none
def f67.p0_e0 {R : Type} (L N : Nat) (self67 : (List Tree) → Int → Option (Int × (List Tree))) (n0 : Nat) (k : Int → (List Tree) → Option R) (z3 : Int) (z4 : (List Tree)) : Option R :=
  f67.p0_e0' L N self67 n0 k z3 z4
def f67.b' {R : Type} (L N : Nat) (self67 : (List Tree) → Int → Option (Int × (List Tree))) (n0 : Nat) (k : Int → (List Tree) → Option R) (w0 : Int → Int → (List Tree) → Option R) (oo : List Tree) (x0 : Int) : Option R :=
  w0 x0 (0 : Int) oo
def f67.b {R : Type} (L N : Nat) (self67 : (List Tree) → Int → Option (Int × (List Tree))) (n0 : Nat) (k : Int → (List Tree) → Option R) (oo : List Tree) (x0 : Int) : Option R :=
  f67.b' L N self67 n0 k (fun s0 s1 s2 => f67.l0 L N self67 n0 (fun z3 z4 => f67.p0_e0 L N self67 n0 k z3 z4) L s0 s1 s2) oo x0
def f67 (L N : Nat) : Nat → List Tree → Int → Option (Int × (List Tree))
  | 0, _, _ => none
  | n + 1, oo, x0 => f67.b L N (f67 L N n) oo.length (fun a0 a1 => some (a0, a1)) oo x0
def f67.ent (L N m : Nat) (args : List AV) (vw : View) (site : Nat) : Ans := match ownD (some 1) 38 (.st 1) [i64] vw args with
  | some (o, xs, d, u) => ⟨Int × (List Tree), f67 L N m xs d.1, fun y => ((.tv i64 y.1), u ++ [(o, some (mkO (some 1) 38 (.st 1) y.2))], [])⟩
  | none => Ans.no
def Φ67s (L N m : Nat) : Tells := (addT (Φ66 L N) 67 (f67.ent L N m))
noncomputable def E67 (L N m : Nat) : Env := { P := Try.prog, ty := tyOf, Φ := Φ67s L N m, inl := inlT, live := lives, liveX := livesX, L := L, dp := none, prom := promT, heal := healT, ren := renT }
noncomputable def f67.c0 : Code := loopAt 0 (codeOf Try.f67)
theorem f67.s0_pre {R : Type} (L N m n0 : Nat) (κ : Ex → T → H → Option R) (rec : T → H → Option R) (s0 : Int) (s1 : Int) (s2 : (List Tree)) :
    evRd (E67 L N m) (evCallI (E67 L N m) 1 2000) 1000 67 34 0 f67.c0 κ rec (f67.T0 s0 s1 s2) (f67.H0 s0 s1 s2)
    = f67.s0' L N (f67 L N m) n0 (fun z3 z4 => κ (.exit 0) (f67.T0_e0 z3 z4) (f67.H0_e0 z3 z4)) (fun s0 s1 s2 => rec (f67.T0 s0 s1 s2) (f67.H0 s0 s1 s2)) s0 s1 s2 := by kernel_rfl
theorem f67.s0_eq {R : Type} (L N m n0 : Nat) (κ : Ex → T → H → Option R) (rec : T → H → Option R) (s0 : Int) (s1 : Int) (s2 : (List Tree)) :
    evRd (E67 L N m) (evCallI (E67 L N m) 1 2000) 1000 67 34 0 f67.c0 κ rec (f67.T0 s0 s1 s2) (f67.H0 s0 s1 s2)
    = f67.s0 L N (f67 L N m) n0 (fun z3 z4 => κ (.exit 0) (f67.T0_e0 z3 z4) (f67.H0_e0 z3 z4)) (fun s0 s1 s2 => rec (f67.T0 s0 s1 s2) (f67.H0 s0 s1 s2)) s0 s1 s2 := by
  rw [f67.s0_pre L N m n0]
  unfold f67.s0
  rfl
theorem f67.l0_eq {R : Type} (L N m n0 : Nat) (κ : Ex → T → H → Option R) : ∀ (n : Nat) (s0 : Int) (s1 : Int) (s2 : (List Tree)),
    evLp (E67 L N m) (evCallI (E67 L N m) 1 2000) 1000 67 34 0 f67.c0 κ n (f67.T0 s0 s1 s2) (f67.H0 s0 s1 s2)
    = f67.l0 L N (f67 L N m) n0 (fun z3 z4 => κ (.exit 0) (f67.T0_e0 z3 z4) (f67.H0_e0 z3 z4)) n s0 s1 s2 := by
  intro n
  induction n with
  | zero => intros; rfl
  | succ n ih =>
    intro s0 s1 s2
    rw [evLp_succ, f67.s0_eq L N m n0]
    simp only [ih]
    rfl
theorem f67.p0_e0_pre {R : Type} (L N m n0 : Nat) (κ : AV → List Tree → Option R) (z3 : Int) (z4 : (List Tree)) :
    (contAt (E67 L N m) (evCallI (E67 L N m) 1 2000) 1000 67 34 0 (codeOf Try.f67) (finK (E67 L N m) 1000 Try.f67 (finO (.one i64) (some 1) 38 (.st 1) n0 κ))) (.exit 0) (f67.T0_e0 z3 z4) (f67.H0_e0 z3 z4)
    = f67.p0_e0' L N (f67 L N m) n0 (fun a0 a1 => κ (.tv i64 a0) a1) z3 z4 := by kernel_rfl
theorem f67.p0_e0_eq {R : Type} (L N m n0 : Nat) (κ : AV → List Tree → Option R) (z3 : Int) (z4 : (List Tree)) :
    (contAt (E67 L N m) (evCallI (E67 L N m) 1 2000) 1000 67 34 0 (codeOf Try.f67) (finK (E67 L N m) 1000 Try.f67 (finO (.one i64) (some 1) 38 (.st 1) n0 κ))) (.exit 0) (f67.T0_e0 z3 z4) (f67.H0_e0 z3 z4)
    = f67.p0_e0 L N (f67 L N m) n0 (fun a0 a1 => κ (.tv i64 a0) a1) z3 z4 := by
  rw [f67.p0_e0_pre L N m n0]
  unfold f67.p0_e0
  rfl
theorem f67.b_pre {R : Type} (L N m n0 : Nat) (κ : AV → List Tree → Option R) (oo : List Tree) (x0 : Int) :
    evBody (E67 L N m) (evCallI (E67 L N m) 1 2000) 1000 67 Try.f67 [(.row 0), (.tv i64 x0)] [.row 0] [(0, (.deep 1 (.st 1) oo none))] (finO (.one i64) (some 1) 38 (.st 1) n0 κ)
    = f67.b' L N (f67 L N m) n0 (fun a0 a1 => κ (.tv i64 a0) a1) (fun s0 s1 s2 => evLp (E67 L N m) (evCallI (E67 L N m) 1 2000) 1000 67 34 0 f67.c0 (contAt (E67 L N m) (evCallI (E67 L N m) 1 2000) 1000 67 34 0 (codeOf Try.f67) (finK (E67 L N m) 1000 Try.f67 (finO (.one i64) (some 1) 38 (.st 1) n0 κ))) L (f67.T0 s0 s1 s2) (f67.H0 s0 s1 s2)) oo x0 := by kernel_rfl
theorem f67.b_eq {R : Type} (L N m n0 : Nat) (κ : AV → List Tree → Option R) (oo : List Tree) (x0 : Int) :
    evBody (E67 L N m) (evCallI (E67 L N m) 1 2000) 1000 67 Try.f67 [(.row 0), (.tv i64 x0)] [.row 0] [(0, (.deep 1 (.st 1) oo none))] (finO (.one i64) (some 1) 38 (.st 1) n0 κ)
    = f67.b L N (f67 L N m) n0 (fun a0 a1 => κ (.tv i64 a0) a1) oo x0 := by
  rw [f67.b_pre L N m n0]
  unfold f67.b
  simp only [f67.l0_eq L N m n0, f67.p0_e0_eq L N m n0]
theorem f67.s0'_nat {R R' : Type} (j : R → Option R') (L N : Nat) (self67 : (List Tree) → Int → Option (Int × (List Tree))) (n0 : Nat) (k0_e0 : Int → (List Tree) → Option R) (rec0 : Int → Int → (List Tree) → Option R) (s0 : Int) (s1 : Int) (s2 : (List Tree)) :
    f67.s0' L N self67 n0 (fun a0 a1 => (k0_e0 a0 a1).bind j) (fun a0 a1 a2 => (rec0 a0 a1 a2).bind j) s0 s1 s2 = (f67.s0' L N self67 n0 k0_e0 rec0 s0 s1 s2).bind j := by
  unfold f67.s0'
  repeat' (first | (with_reducible refine cond_nat ?_ ?_) | (with_reducible refine bind_nat fun _ => ?_) | rfl)
theorem f67.s0_nat {R R' : Type} (j : R → Option R') (L N : Nat) (self67 : (List Tree) → Int → Option (Int × (List Tree))) (n0 : Nat) (k0_e0 : Int → (List Tree) → Option R) (rec0 : Int → Int → (List Tree) → Option R) (s0 : Int) (s1 : Int) (s2 : (List Tree)) :
    f67.s0 L N self67 n0 (fun a0 a1 => (k0_e0 a0 a1).bind j) (fun a0 a1 a2 => (rec0 a0 a1 a2).bind j) s0 s1 s2 = (f67.s0 L N self67 n0 k0_e0 rec0 s0 s1 s2).bind j := by
  unfold f67.s0
  exact f67.s0'_nat ..
theorem f67.l0_nat {R R' : Type} (j : R → Option R') (L N : Nat) (self67 : (List Tree) → Int → Option (Int × (List Tree))) (n0 : Nat) (k0_e0 : Int → (List Tree) → Option R) : ∀ (n : Nat) (s0 : Int) (s1 : Int) (s2 : (List Tree)),
    f67.l0 L N self67 n0 (fun a0 a1 => (k0_e0 a0 a1).bind j) n s0 s1 s2 = (f67.l0 L N self67 n0 k0_e0 n s0 s1 s2).bind j := by
  intro n
  induction n with
  | zero => intros; rfl
  | succ n ih =>
    intro s0 s1 s2
    show f67.s0 L N self67 n0 (fun a0 a1 => (k0_e0 a0 a1).bind j) (f67.l0 L N self67 n0 (fun a0 a1 => (k0_e0 a0 a1).bind j) n) s0 s1 s2 = _
    rw [show f67.l0 L N self67 n0 (fun a0 a1 => (k0_e0 a0 a1).bind j) n = (fun s0 s1 s2 => (f67.l0 L N self67 n0 k0_e0 n s0 s1 s2).bind j) from funext fun s0 => funext fun s1 => funext fun s2 => ih s0 s1 s2]
    exact f67.s0_nat ..
theorem f67.p0_e0'_nat {R R' : Type} (j : R → Option R') (L N : Nat) (self67 : (List Tree) → Int → Option (Int × (List Tree))) (n0 : Nat) (k : Int → (List Tree) → Option R) (z3 : Int) (z4 : (List Tree)) :
    f67.p0_e0' L N self67 n0 (fun a0 a1 => (k a0 a1).bind j) z3 z4 = (f67.p0_e0' L N self67 n0 k z3 z4).bind j := by
  unfold f67.p0_e0'
  repeat' (first | (with_reducible refine cond_nat ?_ ?_) | (with_reducible refine bind_nat fun _ => ?_) | rfl)
theorem f67.p0_e0_nat {R R' : Type} (j : R → Option R') (L N : Nat) (self67 : (List Tree) → Int → Option (Int × (List Tree))) (n0 : Nat) (k : Int → (List Tree) → Option R) (z3 : Int) (z4 : (List Tree)) :
    f67.p0_e0 L N self67 n0 (fun a0 a1 => (k a0 a1).bind j) z3 z4 = (f67.p0_e0 L N self67 n0 k z3 z4).bind j := by
  unfold f67.p0_e0
  exact f67.p0_e0'_nat ..
theorem f67.b'_nat {R R' : Type} (j : R → Option R') (L N : Nat) (self67 : (List Tree) → Int → Option (Int × (List Tree))) (n0 : Nat) (k : Int → (List Tree) → Option R) (w0 : Int → Int → (List Tree) → Option R) (oo : List Tree) (x0 : Int) :
    f67.b' L N self67 n0 (fun a0 a1 => (k a0 a1).bind j) (fun a0 a1 a2 => (w0 a0 a1 a2).bind j) oo x0 = (f67.b' L N self67 n0 k w0 oo x0).bind j := by
  unfold f67.b'
  repeat' (first | (with_reducible refine cond_nat ?_ ?_) | (with_reducible refine bind_nat fun _ => ?_) | rfl)
theorem f67.b_nat {R R' : Type} (j : R → Option R') (L N : Nat) (self67 : (List Tree) → Int → Option (Int × (List Tree))) (n0 : Nat) (k : Int → (List Tree) → Option R) (oo : List Tree) (x0 : Int) :
    f67.b L N self67 n0 (fun a0 a1 => (k a0 a1).bind j) oo x0 = (f67.b L N self67 n0 k oo x0).bind j := by
  unfold f67.b
  simp only [f67.l0_nat, f67.p0_e0_nat]
  exact f67.b'_nat ..
theorem f67.ok (L N m : Nat) (hΦ : TellsOk Try.prog (Φ67s L N m)) : EntOk Try.prog 67 (f67.ent L N (m + 1)) := by
  intro args vw site h
  unfold f67.ent
  split
  · rename_i o xs d u ha
    intro y hy hs
    obtain ⟨rest, rfl, ho, hr, hu⟩ := ownD_some ha
    refine call_own (dep := 1000) (E := (E67 L N m)) (tr := [i64]) (q := (some 1)) (el := 38) (ty := (.st 1)) (rs := (.one i64)) (v' := (.tv i64 y.1)) (ys := y.2) (sound_of hΦ) okP (callI_sound (sound_of hΦ) okP 1 2000) (f := Try.f67) rfl hs ho hr hu ?_ site
    refine (f67.b_eq L N m xs.length (fun v d => some (v, d)) xs d.1).trans ?_
    refine ((f67.b_nat (fun y => (some ((.tv i64 y.1), y.2) : Option (AV × List Tree))) L N (f67 L N m) xs.length (fun a0 a1 => some (a0, a1)) xs d.1)).trans ?_
    rw [show f67.b L N (f67 L N m) xs.length (fun a0 a1 => some (a0, a1)) xs d.1 = some y from hy]
    rfl
  · intro y hy
    cases hy
theorem Φ67s_ok (L N : Nat) : ∀ m, TellsOk Try.prog (Φ67s L N m) := by
  intro m
  induction m with
  | zero => exact (addT_ok (Φ66_ok L N) (fun args vw site h => by unfold f67.ent; split <;> (intro y hy; cases hy)))
  | succ m ih => exact (addT_ok (Φ66_ok L N) (f67.ok L N m ih))
def Φ67 (L N : Nat) : Tells := (addT (Φ66 L N) 67 (f67.ent L N N))
theorem Φ67_ok (L N : Nat) : TellsOk Try.prog (Φ67 L N) := Φ67s_ok L N N
def f3.j0' {R : Type} (L N : Nat) (k : Bool → Option R) (v23 : (List Int)) (v24 : (List (List Move))) (v25 : Int) (v26 : Int) (v27 : (List Tree)) (v28 : (List Int)) : Option R :=
  (f26 L N v28 (1 : Int)).bind fun y29 =>
  (f27 L N y29.2 (1 : Int)).bind fun y30 =>
  bif (decide (y30 < (0 : Int))) then
    k false
  else bif (y30 != y29.1) then
    k false
  else (f18 L N (Graph.mk v24)).bind fun y31 =>
  (f19 L N N (Tree.mk v25 v26 v27)).bind fun y32 =>
  (f20 L N (Graph.mk y31) (Tree.mk y32.1 y32.2.1 y32.2.2)).bind fun y33 =>
  (f21 L N y33 v23).bind fun y34 =>
  bif (!y34) then
    k false
  else (f27 L N y29.2 (1 : Int)).bind fun y35 =>
  bif (decide (y35 < (0 : Int))) then
    k false
  else bif (y35 != y29.1) then
    k false
  else k true
def f3.b' {R : Type} (L N : Nat) (k : Bool → Option R) (x0 : Graph) (x1 : Tree) : Option R :=
  (f15 L N (Graph.mk x0.moves) (1048576 : Int)).bind fun y0 =>
  bif (decide (y0 < (0 : Int))) then
    k true
  else (f16 L N N (Tree.mk x1.op x1.n x1.parts) y0).bind fun y1 =>
  bif (decide (y1 < (0 : Int))) then
    k true
  else (f18 L N (Graph.mk x0.moves)).bind fun y2 =>
  (f19 L N N (Tree.mk x1.op x1.n x1.parts)).bind fun y3 =>
  (f17 L N (Graph.mk y2) (Tree.mk y3.1 y3.2.1 y3.2.2)).bind fun y4 =>
  (f18 L N (Graph.mk x0.moves)).bind fun y5 =>
  (f19 L N N (Tree.mk x1.op x1.n x1.parts)).bind fun y6 =>
  (f20 L N (Graph.mk y5) (Tree.mk y6.1 y6.2.1 y6.2.2)).bind fun y7 =>
  (f21 L N y7 y4).bind fun y8 =>
  bif (!y8) then
    k false
  else (f18 L N (Graph.mk x0.moves)).bind fun y9 =>
  (f22 L N (Graph.mk y5) (Graph.mk y9)).bind fun y10 =>
  bif (!y10) then
    k false
  else (f19 L N N (Tree.mk x1.op x1.n x1.parts)).bind fun y11 =>
  (f23 L N N (Tree.mk y6.1 y6.2.1 y6.2.2) (Tree.mk y11.1 y11.2.1 y11.2.2)).bind fun y12 =>
  bif (!y12) then
    k false
  else (f66 L N y5 (1 : Int)).bind fun y13 =>
  (f67 L N N y6.2.2 y13.1).bind fun y14 =>
  bif (decide (y14.1 < (0 : Int))) then
    k false
  else (f21 L N y7 y4).bind fun y15 =>
  bif (!y15) then
    k false
  else f3.j0' L N k y4 x0.moves x1.op x1.n x1.parts y7
def f3.b {R : Type} (L N : Nat) (k : Bool → Option R) (x0 : Graph) (x1 : Tree) : Option R :=
  f3.b' L N k x0 x1
def f3 (L N : Nat) (x0 : Graph) (x1 : Tree) : Option (Bool) := f3.b L N some x0 x1
def f3.ent (L N : Nat) (args : List AV) (vw : View) (site : Nat) : Ans := match roD [(.st 2), (.st 1)] vw args with
  | some d => ⟨Bool, f3 L N d.1 d.2.1, fun y => ((.tv .bool y), [], [])⟩
  | none => Ans.no
noncomputable def E3 (L N : Nat) : Env := { P := Try.prog, ty := tyOf, Φ := (Φ67 L N), inl := inlT, live := lives, liveX := livesX, L := L, dp := none, prom := promT, heal := healT, ren := renT }
theorem f3.b_pre {R : Type} (L N : Nat) (κ : AV → Option R) (x0 : Graph) (x1 : Tree) :
    evBody (E3 L N) (evCallI (E3 L N) 1 2000) 1000 3 Try.f3 [(.tv (.st 2) x0), (.tv (.st 1) x1)] [] [] (finC (.one .bool) κ)
    = f3.b' L N (fun a0 => κ (.tv .bool a0)) x0 x1 := by kernel_rfl
theorem f3.b_eq {R : Type} (L N : Nat) (κ : AV → Option R) (x0 : Graph) (x1 : Tree) :
    evBody (E3 L N) (evCallI (E3 L N) 1 2000) 1000 3 Try.f3 [(.tv (.st 2) x0), (.tv (.st 1) x1)] [] [] (finC (.one .bool) κ)
    = f3.b L N (fun a0 => κ (.tv .bool a0)) x0 x1 := by
  rw [f3.b_pre]
  unfold f3.b
  rfl
theorem f3.j0'_nat {R R' : Type} (j : R → Option R') (L N : Nat) (k : Bool → Option R) (v23 : (List Int)) (v24 : (List (List Move))) (v25 : Int) (v26 : Int) (v27 : (List Tree)) (v28 : (List Int)) :
    f3.j0' L N (fun a0 => (k a0).bind j) v23 v24 v25 v26 v27 v28 = (f3.j0' L N k v23 v24 v25 v26 v27 v28).bind j := by
  unfold f3.j0'
  repeat' (first | (with_reducible refine cond_nat ?_ ?_) | (with_reducible refine bind_nat fun _ => ?_) | rfl)
theorem f3.b'_nat {R R' : Type} (j : R → Option R') (L N : Nat) (k : Bool → Option R) (x0 : Graph) (x1 : Tree) :
    f3.b' L N (fun a0 => (k a0).bind j) x0 x1 = (f3.b' L N k x0 x1).bind j := by
  unfold f3.b'
  repeat' (first | (with_reducible refine cond_nat ?_ ?_) | (with_reducible refine bind_nat fun _ => ?_) | exact f3.j0'_nat .. | rfl)
theorem f3.b_nat {R R' : Type} (j : R → Option R') (L N : Nat) (k : Bool → Option R) (x0 : Graph) (x1 : Tree) :
    f3.b L N (fun a0 => (k a0).bind j) x0 x1 = (f3.b L N k x0 x1).bind j := by
  unfold f3.b
  exact f3.b'_nat ..
theorem f3.ok (L N : Nat) (hΦ : TellsOk Try.prog ((Φ67 L N))) : EntOk Try.prog 3 (f3.ent L N) := by
  intro args vw site h
  unfold f3.ent
  split
  · rename_i d ha
    intro y hy hs
    refine call_ro (dep := 1000) (E := (E3 L N)) (rs := (.one .bool)) (v := (.tv .bool y)) (sound_of hΦ) okP (callI_sound (sound_of hΦ) okP 1 2000) (f := Try.f3) rfl hs ha ?_ rfl site
    refine (f3.b_eq L N some d.1 d.2.1).trans ?_
    refine ((f3.b_nat (fun y => (some (.tv .bool y) : Option AV)) L N some d.1 d.2.1)).trans ?_
    rw [show f3.b L N some d.1 d.2.1 = some y from hy]
    rfl
  · intro y hy
    cases hy
def Φ3 (L N : Nat) : Tells := (addT (Φ67 L N) 3 (f3.ent L N))
theorem Φ3_ok (L N : Nat) : TellsOk Try.prog (Φ3 L N) := addT_ok (Φ67_ok L N) (f3.ok L N (Φ67_ok L N))
end Go.Proofs.Ytdfjdbpklbehoaa.Ev
