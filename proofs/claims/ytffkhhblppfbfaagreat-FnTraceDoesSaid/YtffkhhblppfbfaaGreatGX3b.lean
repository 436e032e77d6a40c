/- The seat's functions as plain functions, continued: made by program (wip/gen/gen.py). -/
import Derived.Test.YtffkhhblppfbfaaGreatGX3a
namespace Go.Proofs.YtffkhhblppfbfaaGreat.Ev
open Go
set_option linter.unusedVariables false
set_option maxRecDepth 20000
theorem f55.ok (L N : Nat) (hΦ : TellsOk Tryz.prog ((Φ21 L N))) : EntOk Tryz.prog 55 (f55.ent L N) := by
  intro args vw site h
  unfold f55.ent
  split
  · rename_i d ha
    intro y hy hs
    refine call_ron (y := y) (dep := 1000) (E := (E55 L N)) (ts := [(.st 2), (.sl i64)]) (rn := .row) (q := none) (el := 3) (ty := i64) (d1 := ()) (xs := y) (κ := (fun d xs => some xs)) (sound_of hΦ) okP (callI_sound (sound_of hΦ) okP 0 1000) (f := Tryz.f55) rfl hs ha ?_ (fun _ _ h => by obtain rfl := Option.some.inj h; exact ⟨rfl, rfl⟩) rfl site
    exact (f55.b_eq L N (fun d xs => some xs) d.1 d.2.1).trans (Eq.trans (b := f55.b L N some d.1 d.2.1) (by kernel_rfl) hy)
  · intro y hy
    cases hy
def Φ55 (L N : Nat) : Tells := (addT (Φ21 L N) 55 (f55.ent L N))
theorem Φ55_ok (L N : Nat) : TellsOk Tryz.prog (Φ55 L N) := addT_ok (Φ21_ok L N) (f55.ok L N (Φ21_ok L N))
def f56.s1' {R : Type} (L N : Nat) (k1_e2 : Int → LI → Int → Int → LLM → LI → Option R) (rec1 : Int → LI → Int → Int → LM → Int → Int → LLM → LI → Option R) (s8 : Int) (s9 : LI) (s10 : Int) (s11 : Int) (s12 : LM) (s13 : Int) (s14 : Int) (s15 : LLM) (s16 : LI) : Option R :=
  bif (decide (s14 < s13)) then
    bif (decide (0 ≤ s14) && decide (s14 < (s12.length : Int))) then
      bif ((listAt s12 (Ty.dflt (.st 0)) s14.toNat).act == s8) then
        bif (decide (s16.length + ([(listAt s12 (Ty.dflt (.st 0)) s14.toNat).to] : LI).length ≤ lim)) then
          rec1 s8 s9 s10 s11 s12 s13 (wi (s14 + (1 : Int))) s15 (s16 ++ ([(listAt s12 (Ty.dflt (.st 0)) s14.toNat).to] : LI))
        else none
      else rec1 s8 s9 s10 s11 s12 s13 (wi (s14 + (1 : Int))) s15 s16
    else none
  else k1_e2 s8 s9 s10 s11 s15 s16
def f56.s1 {R : Type} (L N : Nat) (k1_e2 : Int → LI → Int → Int → LLM → LI → Option R) (rec1 : Int → LI → Int → Int → LM → Int → Int → LLM → LI → Option R) (s8 : Int) (s9 : LI) (s10 : Int) (s11 : Int) (s12 : LM) (s13 : Int) (s14 : Int) (s15 : LLM) (s16 : LI) : Option R :=
  f56.s1' L N k1_e2 rec1 s8 s9 s10 s11 s12 s13 s14 s15 s16
def f56.l1 {R : Type} (L N : Nat) (k1_e2 : Int → LI → Int → Int → LLM → LI → Option R) : Nat → Int → LI → Int → Int → LM → Int → Int → LLM → LI → Option R
  | 0, _, _, _, _, _, _, _, _, _ => none
  | n + 1, s8, s9, s10, s11, s12, s13, s14, s15, s16 => f56.s1 L N k1_e2 (f56.l1 L N k1_e2 n) s8 s9 s10 s11 s12 s13 s14 s15 s16
def f56.T1 (s8 : Int) (s9 : LI) (s10 : Int) (s11 : Int) (s12 : LM) (s13 : Int) (s14 : Int) (s15 : LLM) (s16 : LI) : T := mkT 43 [(2, (.tv i64 s8)), (3, (.ptr 1003 0)), (7, (.row 1012)), (13, (.tv (.sl i64) s9)), (14, (.tv i64 s10)), (15, (.tv i64 s11)), (23, (.tv (.sl (.st 0)) s12)), (24, (.tv i64 s13)), (25, (.tv i64 s14))]
def f56.H1 (s8 : Int) (s9 : LI) (s10 : Int) (s11 : Int) (s12 : LM) (s13 : Int) (s14 : Int) (s15 : LLM) (s16 : LI) : H := [(1003, (.box [(.tv (.sl (.sl (.st 0))) s15)])), (1012, (.row 3 i64 s16))]
def f56.T1_e2 (z17 : Int) (z18 : LI) (z19 : Int) (z20 : Int) (z21 : LLM) (z22 : LI) : T := mkT 43 [(2, (.tv i64 z17)), (3, (.ptr 1003 0)), (7, (.row 1012)), (13, (.tv (.sl i64) z18)), (14, (.tv i64 z19)), (15, (.tv i64 z20))]
def f56.H1_e2 (z17 : Int) (z18 : LI) (z19 : Int) (z20 : Int) (z21 : LLM) (z22 : LI) : H := [(1003, (.box [(.tv (.sl (.sl (.st 0))) z21)])), (1012, (.row 3 i64 z22))]
def f56.p1_e2' {R : Type} (L N : Nat) (k0_e0 : LLM → LI → Option R) (rec0 : Int → LI → Int → Int → LLM → LI → Option R) (z17 : Int) (z18 : LI) (z19 : Int) (z20 : Int) (z21 : LLM) (z22 : LI) : Option R :=
  rec0 z17 z18 z19 (wi (z20 + (1 : Int))) z21 z22
def f56.p1_e2 {R : Type} (L N : Nat) (k0_e0 : LLM → LI → Option R) (rec0 : Int → LI → Int → Int → LLM → LI → Option R) (z17 : Int) (z18 : LI) (z19 : Int) (z20 : Int) (z21 : LLM) (z22 : LI) : Option R :=
  f56.p1_e2' L N k0_e0 rec0 z17 z18 z19 z20 z21 z22
def f56.s0' {R : Type} (L N : Nat) (k0_e0 : LLM → LI → Option R) (rec0 : Int → LI → Int → Int → LLM → LI → Option R) (w1 : Int → LI → Int → Int → LM → Int → Int → LLM → LI → Option R) (s0 : Int) (s1 : LI) (s2 : Int) (s3 : Int) (s4 : LLM) (s5 : LI) : Option R :=
  bif (decide (s3 < s2)) then
    bif (decide (0 ≤ s3) && decide (s3 < (s1.length : Int))) then
      bif (decide (0 ≤ (listAt s1 (0 : Int) s3.toNat)) && decide ((listAt s1 (0 : Int) s3.toNat) < (s4.length : Int))) then
        w1 s0 s1 s2 s3 (listAt s4 [] (listAt s1 (0 : Int) s3.toNat).toNat) ((listAt s4 [] (listAt s1 (0 : Int) s3.toNat).toNat).length : Int) (0 : Int) s4 s5
      else none
    else none
  else k0_e0 s4 s5
def f56.s0 {R : Type} (L N : Nat) (k0_e0 : LLM → LI → Option R) (rec0 : Int → LI → Int → Int → LLM → LI → Option R) (s0 : Int) (s1 : LI) (s2 : Int) (s3 : Int) (s4 : LLM) (s5 : LI) : Option R :=
  f56.s0' L N k0_e0 rec0 (fun s8 s9 s10 s11 s12 s13 s14 s15 s16 => f56.l1 L N (fun z17 z18 z19 z20 z21 z22 => f56.p1_e2 L N k0_e0 rec0 z17 z18 z19 z20 z21 z22) L s8 s9 s10 s11 s12 s13 s14 s15 s16) s0 s1 s2 s3 s4 s5
def f56.l0 {R : Type} (L N : Nat) (k0_e0 : LLM → LI → Option R) : Nat → Int → LI → Int → Int → LLM → LI → Option R
  | 0, _, _, _, _, _, _ => none
  | n + 1, s0, s1, s2, s3, s4, s5 => f56.s0 L N k0_e0 (f56.l0 L N k0_e0 n) s0 s1 s2 s3 s4 s5
def f56.T0 (s0 : Int) (s1 : LI) (s2 : Int) (s3 : Int) (s4 : LLM) (s5 : LI) : T := mkT 43 [(2, (.tv i64 s0)), (3, (.ptr 1003 0)), (7, (.row 1012)), (13, (.tv (.sl i64) s1)), (14, (.tv i64 s2)), (15, (.tv i64 s3))]
def f56.H0 (s0 : Int) (s1 : LI) (s2 : Int) (s3 : Int) (s4 : LLM) (s5 : LI) : H := [(1003, (.box [(.tv (.sl (.sl (.st 0))) s4)])), (1012, (.row 3 i64 s5))]
def f56.T0_e0 (z6 : LLM) (z7 : LI) : T := mkT 43 [(3, (.ptr 1003 0)), (7, (.row 1012))]
def f56.H0_e0 (z6 : LLM) (z7 : LI) : H := [(1003, (.box [(.tv (.sl (.sl (.st 0))) z6)])), (1012, (.row 3 i64 z7))]
def f56.p0_e0' {R : Type} (L N : Nat) (k : LI → Option R) (z6 : LLM) (z7 : LI) : Option R :=
  (f55 L N (Graph.mk z6) z7).bind fun y32 =>
  k y32
def f56.p0_e0 {R : Type} (L N : Nat) (k : LI → Option R) (z6 : LLM) (z7 : LI) : Option R :=
  f56.p0_e0' L N k z6 z7
def f56.b' {R : Type} (L N : Nat) (k : LI → Option R) (w0 : Int → LI → Int → Int → LLM → LI → Option R) (x0 : Graph) (x1 : LI) (x2 : Int) : Option R :=
  w0 x2 x1 (x1.length : Int) (0 : Int) x0.moves ([] : LI)
def f56.b {R : Type} (L N : Nat) (k : LI → Option R) (x0 : Graph) (x1 : LI) (x2 : Int) : Option R :=
  f56.b' L N k (fun s0 s1 s2 s3 s4 s5 => f56.l0 L N (fun z6 z7 => f56.p0_e0 L N k z6 z7) L s0 s1 s2 s3 s4 s5) x0 x1 x2
def f56 (L N : Nat) (x0 : Graph) (x1 : LI) (x2 : Int) : Option (LI) := f56.b L N some x0 x1 x2
def f56.ent (L N : Nat) (args : List AV) (vw : View) (site : Nat) : Ans := match roD [(.st 2), (.sl i64), i64] vw args with
  | some d => ⟨LI, f56 L N d.1 d.2.1 d.2.2.1, fun y => (RN.av site .row (), [(site, some (mkO none 3 i64 y))], [])⟩
  | none => Ans.no
noncomputable def E56 (L N : Nat) : Env := { P := Tryz.prog, ty := tyOf, Φ := (Φ55 L N), inl := inlT, live := lives, liveX := livesX, L := L, dp := none, prom := promT, heal := healT, ren := renT }
noncomputable def f56.c0 : Code := loopAt 0 (codeOf Tryz.f56)
noncomputable def f56.c1 : Code := loopAt 2 f56.c0
theorem f56.s1_eq {R : Type} (L N : Nat) (κ : Ex → T → H → Option R) (rec : T → H → Option R) (s8 : Int) (s9 : LI) (s10 : Int) (s11 : Int) (s12 : LM) (s13 : Int) (s14 : Int) (s15 : LLM) (s16 : LI) :
    evRd (E56 L N) (evCallI (E56 L N) 0 1000) 1000 56 43 2 f56.c1 κ rec (f56.T1 s8 s9 s10 s11 s12 s13 s14 s15 s16) (f56.H1 s8 s9 s10 s11 s12 s13 s14 s15 s16)
    = f56.s1 L N (fun z17 z18 z19 z20 z21 z22 => κ (.exit 2) (f56.T1_e2 z17 z18 z19 z20 z21 z22) (f56.H1_e2 z17 z18 z19 z20 z21 z22)) (fun s8 s9 s10 s11 s12 s13 s14 s15 s16 => rec (f56.T1 s8 s9 s10 s11 s12 s13 s14 s15 s16) (f56.H1 s8 s9 s10 s11 s12 s13 s14 s15 s16)) s8 s9 s10 s11 s12 s13 s14 s15 s16 := by kernel_rfl
theorem f56.l1_eq {R : Type} (L N : Nat) (κ : Ex → T → H → Option R) : ∀ (n : Nat) (s8 : Int) (s9 : LI) (s10 : Int) (s11 : Int) (s12 : LM) (s13 : Int) (s14 : Int) (s15 : LLM) (s16 : LI),
    evLp (E56 L N) (evCallI (E56 L N) 0 1000) 1000 56 43 2 f56.c1 κ n (f56.T1 s8 s9 s10 s11 s12 s13 s14 s15 s16) (f56.H1 s8 s9 s10 s11 s12 s13 s14 s15 s16)
    = f56.l1 L N (fun z17 z18 z19 z20 z21 z22 => κ (.exit 2) (f56.T1_e2 z17 z18 z19 z20 z21 z22) (f56.H1_e2 z17 z18 z19 z20 z21 z22)) n s8 s9 s10 s11 s12 s13 s14 s15 s16 := by
  intro n
  induction n with
  | zero => intros; rfl
  | succ n ih =>
    intro s8 s9 s10 s11 s12 s13 s14 s15 s16
    rw [evLp_succ, f56.s1_eq]
    simp only [ih]
    rfl
theorem f56.p1_e2_eq {R : Type} (L N : Nat) (κ : Ex → T → H → Option R) (rec : T → H → Option R) (z17 : Int) (z18 : LI) (z19 : Int) (z20 : Int) (z21 : LLM) (z22 : LI) :
    (contAt (E56 L N) (evCallI (E56 L N) 0 1000) 1000 56 43 2 f56.c0 (rdK (E56 L N) 1000 56 43 0 κ rec)) (.exit 2) (f56.T1_e2 z17 z18 z19 z20 z21 z22) (f56.H1_e2 z17 z18 z19 z20 z21 z22)
    = f56.p1_e2 L N (fun z6 z7 => κ (.exit 0) (f56.T0_e0 z6 z7) (f56.H0_e0 z6 z7)) (fun s0 s1 s2 s3 s4 s5 => rec (f56.T0 s0 s1 s2 s3 s4 s5) (f56.H0 s0 s1 s2 s3 s4 s5)) z17 z18 z19 z20 z21 z22 := by kernel_rfl
theorem f56.s0_eq {R : Type} (L N : Nat) (κ : Ex → T → H → Option R) (rec : T → H → Option R) (s0 : Int) (s1 : LI) (s2 : Int) (s3 : Int) (s4 : LLM) (s5 : LI) :
    evRd (E56 L N) (evCallI (E56 L N) 0 1000) 1000 56 43 0 f56.c0 κ rec (f56.T0 s0 s1 s2 s3 s4 s5) (f56.H0 s0 s1 s2 s3 s4 s5)
    = f56.s0 L N (fun z6 z7 => κ (.exit 0) (f56.T0_e0 z6 z7) (f56.H0_e0 z6 z7)) (fun s0 s1 s2 s3 s4 s5 => rec (f56.T0 s0 s1 s2 s3 s4 s5) (f56.H0 s0 s1 s2 s3 s4 s5)) s0 s1 s2 s3 s4 s5 := by
  refine Eq.trans (b := f56.s0' L N (fun z6 z7 => κ (.exit 0) (f56.T0_e0 z6 z7) (f56.H0_e0 z6 z7)) (fun s0 s1 s2 s3 s4 s5 => rec (f56.T0 s0 s1 s2 s3 s4 s5) (f56.H0 s0 s1 s2 s3 s4 s5)) (fun s8 s9 s10 s11 s12 s13 s14 s15 s16 => evLp (E56 L N) (evCallI (E56 L N) 0 1000) 1000 56 43 2 f56.c1 (contAt (E56 L N) (evCallI (E56 L N) 0 1000) 1000 56 43 2 f56.c0 (rdK (E56 L N) 1000 56 43 0 κ rec)) L (f56.T1 s8 s9 s10 s11 s12 s13 s14 s15 s16) (f56.H1 s8 s9 s10 s11 s12 s13 s14 s15 s16)) s0 s1 s2 s3 s4 s5) (by kernel_rfl) ?_
  unfold f56.s0
  simp only [f56.l1_eq, f56.p1_e2_eq]
theorem f56.l0_eq {R : Type} (L N : Nat) (κ : Ex → T → H → Option R) : ∀ (n : Nat) (s0 : Int) (s1 : LI) (s2 : Int) (s3 : Int) (s4 : LLM) (s5 : LI),
    evLp (E56 L N) (evCallI (E56 L N) 0 1000) 1000 56 43 0 f56.c0 κ n (f56.T0 s0 s1 s2 s3 s4 s5) (f56.H0 s0 s1 s2 s3 s4 s5)
    = f56.l0 L N (fun z6 z7 => κ (.exit 0) (f56.T0_e0 z6 z7) (f56.H0_e0 z6 z7)) n s0 s1 s2 s3 s4 s5 := by
  intro n
  induction n with
  | zero => intros; rfl
  | succ n ih =>
    intro s0 s1 s2 s3 s4 s5
    rw [evLp_succ, f56.s0_eq]
    simp only [ih]
    rfl
theorem f56.p0_e0_eq {R : Type} (L N : Nat) (κ : RN.Den .row → List Int → Option R) (z6 : LLM) (z7 : LI) :
    (contAt (E56 L N) (evCallI (E56 L N) 0 1000) 1000 56 43 0 (codeOf Tryz.f56) (finK (E56 L N) 1000 Tryz.f56 (finN .row none 3 i64 κ))) (.exit 0) (f56.T0_e0 z6 z7) (f56.H0_e0 z6 z7)
    = f56.p0_e0 L N (fun a0 => κ () a0) z6 z7 := by kernel_rfl
theorem f56.b_eq {R : Type} (L N : Nat) (κ : RN.Den .row → List Int → Option R) (x0 : Graph) (x1 : LI) (x2 : Int) :
    evBody (E56 L N) (evCallI (E56 L N) 0 1000) 1000 56 Tryz.f56 [(.tv (.st 2) x0), (.tv (.sl i64) x1), (.tv i64 x2)] [] [] (finN .row none 3 i64 κ)
    = f56.b L N (fun a0 => κ () a0) x0 x1 x2 := by
  refine Eq.trans (b := f56.b' L N (fun a0 => κ () a0) (fun s0 s1 s2 s3 s4 s5 => evLp (E56 L N) (evCallI (E56 L N) 0 1000) 1000 56 43 0 f56.c0 (contAt (E56 L N) (evCallI (E56 L N) 0 1000) 1000 56 43 0 (codeOf Tryz.f56) (finK (E56 L N) 1000 Tryz.f56 (finN .row none 3 i64 κ))) L (f56.T0 s0 s1 s2 s3 s4 s5) (f56.H0 s0 s1 s2 s3 s4 s5)) x0 x1 x2) (by kernel_rfl) ?_
  unfold f56.b
  simp only [f56.l0_eq, f56.p0_e0_eq]
theorem f56.ok (L N : Nat) (hΦ : TellsOk Tryz.prog ((Φ55 L N))) : EntOk Tryz.prog 56 (f56.ent L N) := by
  intro args vw site h
  unfold f56.ent
  split
  · rename_i d ha
    intro y hy hs
    refine call_ron (y := y) (dep := 1000) (E := (E56 L N)) (ts := [(.st 2), (.sl i64), i64]) (rn := .row) (q := none) (el := 3) (ty := i64) (d1 := ()) (xs := y) (κ := (fun d xs => some xs)) (sound_of hΦ) okP (callI_sound (sound_of hΦ) okP 0 1000) (f := Tryz.f56) rfl hs ha ?_ (fun _ _ h => by obtain rfl := Option.some.inj h; exact ⟨rfl, rfl⟩) rfl site
    exact (f56.b_eq L N (fun d xs => some xs) d.1 d.2.1 d.2.2.1).trans (Eq.trans (b := f56.b L N some d.1 d.2.1 d.2.2.1) (by kernel_rfl) hy)
  · intro y hy
    cases hy
def Φ56 (L N : Nat) : Tells := (addT (Φ55 L N) 56 (f56.ent L N))
theorem Φ56_ok (L N : Nat) : TellsOk Tryz.prog (Φ56 L N) := addT_ok (Φ55_ok L N) (f56.ok L N (Φ55_ok L N))
def f30.s0' {R : Type} (L N : Nat) (k0_e0 : LI → Option R) (rec0 : LI → Int → Int → LLM → LI → Option R) (s1 : LI) (s2 : Int) (s3 : Int) (s4 : LLM) (s5 : LI) : Option R :=
  bif (decide (s3 < s2)) then
    bif (decide (0 ≤ s3) && decide (s3 < (s1.length : Int))) then
      (f56 L N (Graph.mk s4) s5 (listAt s1 (0 : Int) s3.toNat)).bind fun y7 =>
      rec0 s1 s2 (wi (s3 + (1 : Int))) s4 y7
    else none
  else k0_e0 s5
def f30.s0 {R : Type} (L N : Nat) (k0_e0 : LI → Option R) (rec0 : LI → Int → Int → LLM → LI → Option R) (s1 : LI) (s2 : Int) (s3 : Int) (s4 : LLM) (s5 : LI) : Option R :=
  f30.s0' L N k0_e0 rec0 s1 s2 s3 s4 s5
def f30.l0 {R : Type} (L N : Nat) (k0_e0 : LI → Option R) : Nat → LI → Int → Int → LLM → LI → Option R
  | 0, _, _, _, _, _ => none
  | n + 1, s1, s2, s3, s4, s5 => f30.s0 L N k0_e0 (f30.l0 L N k0_e0 n) s1 s2 s3 s4 s5
def f30.T0 (s1 : LI) (s2 : Int) (s3 : Int) (s4 : LLM) (s5 : LI) : T := mkT 23 [(2, (.ptr 1002 0)), (5, (.row 1010)), (11, (.tv (.sl i64) s1)), (12, (.tv i64 s2)), (13, (.tv i64 s3))]
def f30.H0 (s1 : LI) (s2 : Int) (s3 : Int) (s4 : LLM) (s5 : LI) : H := [(1002, (.box [(.tv (.sl (.sl (.st 0))) s4)])), (1010, (.row 3 i64 s5))]
def f30.T0_e0 (z6 : LI) : T := mkT 23 [(5, (.row 1010))]
def f30.H0_e0 (z6 : LI) : H := [(1010, (.row 3 i64 z6))]
def f30.p0_e0' {R : Type} (L N : Nat) (k : LI → Option R) (z6 : LI) : Option R :=
  k z6
def f30.p0_e0 {R : Type} (L N : Nat) (k : LI → Option R) (z6 : LI) : Option R :=
  f30.p0_e0' L N k z6
def f30.b' {R : Type} (L N : Nat) (k : LI → Option R) (w0 : LI → Int → Int → LLM → LI → Option R) (x0 : Graph) (x1 : LI) : Option R :=
  (f55 L N (Graph.mk x0.moves) ([(0 : Int)] : LI)).bind fun y0 =>
  w0 x1 (x1.length : Int) (0 : Int) x0.moves y0
def f30.b {R : Type} (L N : Nat) (k : LI → Option R) (x0 : Graph) (x1 : LI) : Option R :=
  f30.b' L N k (fun s1 s2 s3 s4 s5 => f30.l0 L N (fun z6 => f30.p0_e0 L N k z6) L s1 s2 s3 s4 s5) x0 x1
def f30 (L N : Nat) (x0 : Graph) (x1 : LI) : Option (LI) := f30.b L N some x0 x1
def f30.ent (L N : Nat) (args : List AV) (vw : View) (site : Nat) : Ans := match roD [(.st 2), (.sl i64)] vw args with
  | some d => ⟨LI, f30 L N d.1 d.2.1, fun y => (RN.av site .row (), [(site, some (mkO none 3 i64 y))], [])⟩
  | none => Ans.no
noncomputable def E30 (L N : Nat) : Env := { P := Tryz.prog, ty := tyOf, Φ := (Φ56 L N), inl := inlT, live := lives, liveX := livesX, L := L, dp := none, prom := promT, heal := healT, ren := renT }
noncomputable def f30.c0 : Code := loopAt 0 (codeOf Tryz.f30)
theorem f30.s0_eq {R : Type} (L N : Nat) (κ : Ex → T → H → Option R) (rec : T → H → Option R) (s1 : LI) (s2 : Int) (s3 : Int) (s4 : LLM) (s5 : LI) :
    evRd (E30 L N) (evCallI (E30 L N) 0 1000) 1000 30 23 0 f30.c0 κ rec (f30.T0 s1 s2 s3 s4 s5) (f30.H0 s1 s2 s3 s4 s5)
    = f30.s0 L N (fun z6 => κ (.exit 0) (f30.T0_e0 z6) (f30.H0_e0 z6)) (fun s1 s2 s3 s4 s5 => rec (f30.T0 s1 s2 s3 s4 s5) (f30.H0 s1 s2 s3 s4 s5)) s1 s2 s3 s4 s5 := by kernel_rfl
theorem f30.l0_eq {R : Type} (L N : Nat) (κ : Ex → T → H → Option R) : ∀ (n : Nat) (s1 : LI) (s2 : Int) (s3 : Int) (s4 : LLM) (s5 : LI),
    evLp (E30 L N) (evCallI (E30 L N) 0 1000) 1000 30 23 0 f30.c0 κ n (f30.T0 s1 s2 s3 s4 s5) (f30.H0 s1 s2 s3 s4 s5)
    = f30.l0 L N (fun z6 => κ (.exit 0) (f30.T0_e0 z6) (f30.H0_e0 z6)) n s1 s2 s3 s4 s5 := by
  intro n
  induction n with
  | zero => intros; rfl
  | succ n ih =>
    intro s1 s2 s3 s4 s5
    rw [evLp_succ, f30.s0_eq]
    simp only [ih]
    rfl
theorem f30.p0_e0_eq {R : Type} (L N : Nat) (κ : RN.Den .row → List Int → Option R) (z6 : LI) :
    (contAt (E30 L N) (evCallI (E30 L N) 0 1000) 1000 30 23 0 (codeOf Tryz.f30) (finK (E30 L N) 1000 Tryz.f30 (finN .row none 3 i64 κ))) (.exit 0) (f30.T0_e0 z6) (f30.H0_e0 z6)
    = f30.p0_e0 L N (fun a0 => κ () a0) z6 := by kernel_rfl
theorem f30.b_eq {R : Type} (L N : Nat) (κ : RN.Den .row → List Int → Option R) (x0 : Graph) (x1 : LI) :
    evBody (E30 L N) (evCallI (E30 L N) 0 1000) 1000 30 Tryz.f30 [(.tv (.st 2) x0), (.tv (.sl i64) x1)] [] [] (finN .row none 3 i64 κ)
    = f30.b L N (fun a0 => κ () a0) x0 x1 := by
  refine Eq.trans (b := f30.b' L N (fun a0 => κ () a0) (fun s1 s2 s3 s4 s5 => evLp (E30 L N) (evCallI (E30 L N) 0 1000) 1000 30 23 0 f30.c0 (contAt (E30 L N) (evCallI (E30 L N) 0 1000) 1000 30 23 0 (codeOf Tryz.f30) (finK (E30 L N) 1000 Tryz.f30 (finN .row none 3 i64 κ))) L (f30.T0 s1 s2 s3 s4 s5) (f30.H0 s1 s2 s3 s4 s5)) x0 x1) (by kernel_rfl) ?_
  unfold f30.b
  simp only [f30.l0_eq, f30.p0_e0_eq]
theorem f30.ok (L N : Nat) (hΦ : TellsOk Tryz.prog ((Φ56 L N))) : EntOk Tryz.prog 30 (f30.ent L N) := by
  intro args vw site h
  unfold f30.ent
  split
  · rename_i d ha
    intro y hy hs
    refine call_ron (y := y) (dep := 1000) (E := (E30 L N)) (ts := [(.st 2), (.sl i64)]) (rn := .row) (q := none) (el := 3) (ty := i64) (d1 := ()) (xs := y) (κ := (fun d xs => some xs)) (sound_of hΦ) okP (callI_sound (sound_of hΦ) okP 0 1000) (f := Tryz.f30) rfl hs ha ?_ (fun _ _ h => by obtain rfl := Option.some.inj h; exact ⟨rfl, rfl⟩) rfl site
    exact (f30.b_eq L N (fun d xs => some xs) d.1 d.2.1).trans (Eq.trans (b := f30.b L N some d.1 d.2.1) (by kernel_rfl) hy)
  · intro y hy
    cases hy
def Φ30 (L N : Nat) : Tells := (addT (Φ56 L N) 30 (f30.ent L N))
theorem Φ30_ok (L N : Nat) : TellsOk Tryz.prog (Φ30 L N) := addT_ok (Φ56_ok L N) (f30.ok L N (Φ56_ok L N))
def f53.b' {R : Type} (L N : Nat) (k : Bool → Option R) (x0 : Int) : Option R :=
  (f45 L N x0).bind fun y0 =>
  bif y0 then
    k (x0 != (0 : Int))
  else k false
def f53.b {R : Type} (L N : Nat) (k : Bool → Option R) (x0 : Int) : Option R :=
  f53.b' L N k x0
def f53 (L N : Nat) (x0 : Int) : Option (Bool) := f53.b L N some x0
def f53.ent (L N : Nat) (args : List AV) (vw : View) (site : Nat) : Ans := match roD [i64] vw args with
  | some d => ⟨Bool, f53 L N d.1, fun y => ((.tv .bool y), [], [])⟩
  | none => Ans.no
noncomputable def E53 (L N : Nat) : Env := { P := Tryz.prog, ty := tyOf, Φ := (Φ30 L N), inl := inlT, live := lives, liveX := livesX, L := L, dp := none, prom := promT, heal := healT, ren := renT }
theorem f53.b_eq {R : Type} (L N : Nat) (κ : AV → Option R) (x0 : Int) :
    evBody (E53 L N) (evCallI (E53 L N) 0 1000) 1000 53 Tryz.f53 [(.tv i64 x0)] [] [] (finC (.one .bool) κ)
    = f53.b L N (fun a0 => κ (.tv .bool a0)) x0 := by kernel_rfl
theorem f53.ok (L N : Nat) (hΦ : TellsOk Tryz.prog ((Φ30 L N))) : EntOk Tryz.prog 53 (f53.ent L N) := by
  intro args vw site h
  unfold f53.ent
  split
  · rename_i d ha
    intro y hy hs
    refine call_ro (dep := 1000) (E := (E53 L N)) (rs := (.one .bool)) (κ := unR (.one .bool)) (sound_of hΦ) okP (callI_sound (sound_of hΦ) okP 0 1000) (f := Tryz.f53) rfl hs ha ?_ (fun _ h => unR_some h) rfl site
    exact (f53.b_eq L N (unR (.one .bool)) d.1).trans (Eq.trans (b := f53.b L N some d.1) (by kernel_rfl) hy)
  · intro y hy
    cases hy
def Φ53 (L N : Nat) : Tells := (addT (Φ30 L N) 53 (f53.ent L N))
theorem Φ53_ok (L N : Nat) : TellsOk Tryz.prog (Φ53 L N) := addT_ok (Φ30_ok L N) (f53.ok L N (Φ30_ok L N))
def f52.b' {R : Type} (L N : Nat) (k : Bool → Option R) (x0 : Int) : Option R :=
  (f53 L N x0).bind fun y0 =>
  k (!y0)
def f52.b {R : Type} (L N : Nat) (k : Bool → Option R) (x0 : Int) : Option R :=
  f52.b' L N k x0
def f52 (L N : Nat) (x0 : Int) : Option (Bool) := f52.b L N some x0
def f52.ent (L N : Nat) (args : List AV) (vw : View) (site : Nat) : Ans := match roD [i64] vw args with
  | some d => ⟨Bool, f52 L N d.1, fun y => ((.tv .bool y), [], [])⟩
  | none => Ans.no
noncomputable def E52 (L N : Nat) : Env := { P := Tryz.prog, ty := tyOf, Φ := (Φ53 L N), inl := inlT, live := lives, liveX := livesX, L := L, dp := none, prom := promT, heal := healT, ren := renT }
theorem f52.b_eq {R : Type} (L N : Nat) (κ : AV → Option R) (x0 : Int) :
    evBody (E52 L N) (evCallI (E52 L N) 0 1000) 1000 52 Tryz.f52 [(.tv i64 x0)] [] [] (finC (.one .bool) κ)
    = f52.b L N (fun a0 => κ (.tv .bool a0)) x0 := by kernel_rfl
theorem f52.ok (L N : Nat) (hΦ : TellsOk Tryz.prog ((Φ53 L N))) : EntOk Tryz.prog 52 (f52.ent L N) := by
  intro args vw site h
  unfold f52.ent
  split
  · rename_i d ha
    intro y hy hs
    refine call_ro (dep := 1000) (E := (E52 L N)) (rs := (.one .bool)) (κ := unR (.one .bool)) (sound_of hΦ) okP (callI_sound (sound_of hΦ) okP 0 1000) (f := Tryz.f52) rfl hs ha ?_ (fun _ h => unR_some h) rfl site
    exact (f52.b_eq L N (unR (.one .bool)) d.1).trans (Eq.trans (b := f52.b L N some d.1) (by kernel_rfl) hy)
  · intro y hy
    cases hy
def Φ52 (L N : Nat) : Tells := (addT (Φ53 L N) 52 (f52.ent L N))
theorem Φ52_ok (L N : Nat) : TellsOk Tryz.prog (Φ52 L N) := addT_ok (Φ53_ok L N) (f52.ok L N (Φ53_ok L N))
def f54_1.s0' {R : Type} (L N : Nat) (k0_e0 : Option R) (k0_r : Int → Option R) (rec0 : LI → Int → Int → Option R) (s0 : LI) (s1 : Int) (s2 : Int) : Option R :=
  bif (decide (s2 < s1)) then
    bif (decide (0 ≤ s2) && decide (s2 < (s0.length : Int))) then
      (f52 L N (listAt s0 (0 : Int) s2.toNat)).bind fun y3 =>
      bif y3 then
        k0_r s2
      else rec0 s0 s1 (wi (s2 + (1 : Int)))
    else none
  else k0_e0
def f54_1.s0 {R : Type} (L N : Nat) (k0_e0 : Option R) (k0_r : Int → Option R) (rec0 : LI → Int → Int → Option R) (s0 : LI) (s1 : Int) (s2 : Int) : Option R :=
  f54_1.s0' L N k0_e0 k0_r rec0 s0 s1 s2
def f54_1.l0 {R : Type} (L N : Nat) (k0_e0 : Option R) (k0_r : Int → Option R) : Nat → LI → Int → Int → Option R
  | 0, _, _, _ => none
  | n + 1, s0, s1, s2 => f54_1.s0 L N k0_e0 k0_r (f54_1.l0 L N k0_e0 k0_r n) s0 s1 s2
def f54_1.T0 (s0 : LI) (s1 : Int) (s2 : Int) : T := mkT 19 [(0, (.tv (.sl i64) s0)), (1, (.fn 52 [])), (7, (.tv i64 s1)), (8, (.tv i64 s2))]
def f54_1.H0 (s0 : LI) (s1 : Int) (s2 : Int) : H := []
def f54_1.T0_e0 : T := mkT 19 []
def f54_1.H0_e0 : H := []
def f54_1.T0_r (z4 : Int) : T := mkT 19 [(4, (.tv i64 z4))]
def f54_1.H0_r (z4 : Int) : H := []
def f54_1.p0_e0' {R : Type} (L N : Nat) (k : Int → Option R) : Option R :=
  k (-1 : Int)
def f54_1.p0_e0 {R : Type} (L N : Nat) (k : Int → Option R) : Option R :=
  f54_1.p0_e0' L N k
def f54_1.p0_r' {R : Type} (L N : Nat) (k : Int → Option R) (z4 : Int) : Option R :=
  k z4
def f54_1.p0_r {R : Type} (L N : Nat) (k : Int → Option R) (z4 : Int) : Option R :=
  f54_1.p0_r' L N k z4
def f54_1.b' {R : Type} (L N : Nat) (k : Int → Option R) (w0 : LI → Int → Int → Option R) (x0 : LI) : Option R :=
  w0 x0 (x0.length : Int) (0 : Int)
def f54_1.b {R : Type} (L N : Nat) (k : Int → Option R) (x0 : LI) : Option R :=
  f54_1.b' L N k (fun s0 s1 s2 => f54_1.l0 L N (f54_1.p0_e0 L N k) (fun z4 => f54_1.p0_r L N k z4) L s0 s1 s2) x0
def f54_1 (L N : Nat) (x0 : LI) : Option (Int) := f54_1.b L N some x0
def f54_1.ent (L N : Nat) (args : List AV) (vw : View) (site : Nat) : Option Ans := match shD [(.dat (.sl i64)), (.fn 52 [])] vw args with
  | some d => some ⟨Int, f54_1 L N d.1, fun y => ((.tv i64 y), [], [])⟩
  | none => none
noncomputable def E54_1 (L N : Nat) : Env := { P := Tryz.prog, ty := tyOf, Φ := (Φ52 L N), inl := inlT, live := lives, liveX := livesX, L := L, dp := none, prom := promT, heal := healT, ren := renT }
noncomputable def f54_1.c0 : Code := loopAt 0 (codeOf Tryz.f54)
theorem f54_1.s0_eq {R : Type} (L N : Nat) (κ : Ex → T → H → Option R) (rec : T → H → Option R) (s0 : LI) (s1 : Int) (s2 : Int) :
    evRd (E54_1 L N) (evCallI (E54_1 L N) 0 1000) 1000 54 19 0 f54_1.c0 κ rec (f54_1.T0 s0 s1 s2) (f54_1.H0 s0 s1 s2)
    = f54_1.s0 L N (κ (.exit 0) f54_1.T0_e0 f54_1.H0_e0) (fun z4 => κ .ret (f54_1.T0_r z4) (f54_1.H0_r z4)) (fun s0 s1 s2 => rec (f54_1.T0 s0 s1 s2) (f54_1.H0 s0 s1 s2)) s0 s1 s2 := by kernel_rfl
theorem f54_1.l0_eq {R : Type} (L N : Nat) (κ : Ex → T → H → Option R) : ∀ (n : Nat) (s0 : LI) (s1 : Int) (s2 : Int),
    evLp (E54_1 L N) (evCallI (E54_1 L N) 0 1000) 1000 54 19 0 f54_1.c0 κ n (f54_1.T0 s0 s1 s2) (f54_1.H0 s0 s1 s2)
    = f54_1.l0 L N (κ (.exit 0) f54_1.T0_e0 f54_1.H0_e0) (fun z4 => κ .ret (f54_1.T0_r z4) (f54_1.H0_r z4)) n s0 s1 s2 := by
  intro n
  induction n with
  | zero => intros; rfl
  | succ n ih =>
    intro s0 s1 s2
    rw [evLp_succ, f54_1.s0_eq]
    simp only [ih]
    rfl
theorem f54_1.p0_e0_eq {R : Type} (L N : Nat) (κ : AV → Option R) :
    (contAt (E54_1 L N) (evCallI (E54_1 L N) 0 1000) 1000 54 19 0 (codeOf Tryz.f54) (finK (E54_1 L N) 1000 Tryz.f54 (finC (.one i64) κ))) (.exit 0) f54_1.T0_e0 f54_1.H0_e0
    = f54_1.p0_e0 L N (fun a0 => κ (.tv i64 a0)) := by kernel_rfl
theorem f54_1.p0_r_eq {R : Type} (L N : Nat) (κ : AV → Option R) (z4 : Int) :
    (contAt (E54_1 L N) (evCallI (E54_1 L N) 0 1000) 1000 54 19 0 (codeOf Tryz.f54) (finK (E54_1 L N) 1000 Tryz.f54 (finC (.one i64) κ))) .ret (f54_1.T0_r z4) (f54_1.H0_r z4)
    = f54_1.p0_r L N (fun a0 => κ (.tv i64 a0)) z4 := by kernel_rfl
theorem f54_1.b_eq {R : Type} (L N : Nat) (κ : AV → Option R) (x0 : LI) :
    evBody (E54_1 L N) (evCallI (E54_1 L N) 0 1000) 1000 54 Tryz.f54 [(.tv (.sl i64) x0), (.fn 52 [])] [] [] (finC (.one i64) κ)
    = f54_1.b L N (fun a0 => κ (.tv i64 a0)) x0 := by
  refine Eq.trans (b := f54_1.b' L N (fun a0 => κ (.tv i64 a0)) (fun s0 s1 s2 => evLp (E54_1 L N) (evCallI (E54_1 L N) 0 1000) 1000 54 19 0 f54_1.c0 (contAt (E54_1 L N) (evCallI (E54_1 L N) 0 1000) 1000 54 19 0 (codeOf Tryz.f54) (finK (E54_1 L N) 1000 Tryz.f54 (finC (.one i64) κ))) L (f54_1.T0 s0 s1 s2) (f54_1.H0 s0 s1 s2)) x0) (by kernel_rfl) ?_
  unfold f54_1.b
  simp only [f54_1.l0_eq, f54_1.p0_e0_eq, f54_1.p0_r_eq]
theorem f54_1.ok (L N : Nat) (hΦ : TellsOk Tryz.prog ((Φ52 L N))) : EntOkO Tryz.prog 54 (f54_1.ent L N) := by
  intro args vw site h a ha
  unfold f54_1.ent at ha
  split at ha
  · rename_i d hd
    obtain rfl := Option.some.inj ha
    intro y hy hs
    refine call_rof (dep := 1000) (E := (E54_1 L N)) (rs := (.one i64)) (κ := unR (.one i64)) (sound_of hΦ) okP (callI_sound (sound_of hΦ) okP 0 1000) (f := Tryz.f54) rfl hs hd ?_ (fun _ h => unR_some h) rfl site
    exact (f54_1.b_eq L N (unR (.one i64)) d.1).trans (Eq.trans (b := f54_1.b L N some d.1) (by kernel_rfl) hy)
  · cases ha
def Φ54_1 (L N : Nat) : Tells := (addO (Φ52 L N) 54 (f54_1.ent L N))
theorem Φ54_1_ok (L N : Nat) : TellsOk Tryz.prog (Φ54_1 L N) := addO_ok (Φ52_ok L N) (f54_1.ok L N (Φ52_ok L N))
def f29_1.b' {R : Type} (L N : Nat) (k : Bool → Option R) (x0 : LI) : Option R :=
  (f54_1 L N x0).bind fun y0 =>
  k (decide (y0 ≥ (0 : Int)))
def f29_1.b {R : Type} (L N : Nat) (k : Bool → Option R) (x0 : LI) : Option R :=
  f29_1.b' L N k x0
def f29_1 (L N : Nat) (x0 : LI) : Option (Bool) := f29_1.b L N some x0
def f29_1.ent (L N : Nat) (args : List AV) (vw : View) (site : Nat) : Option Ans := match shD [(.dat (.sl i64)), (.fn 52 [])] vw args with
  | some d => some ⟨Bool, f29_1 L N d.1, fun y => ((.tv .bool y), [], [])⟩
  | none => none
noncomputable def E29_1 (L N : Nat) : Env := { P := Tryz.prog, ty := tyOf, Φ := (Φ54_1 L N), inl := inlT, live := lives, liveX := livesX, L := L, dp := none, prom := promT, heal := healT, ren := renT }
theorem f29_1.b_eq {R : Type} (L N : Nat) (κ : AV → Option R) (x0 : LI) :
    evBody (E29_1 L N) (evCallI (E29_1 L N) 0 1000) 1000 29 Tryz.f29 [(.tv (.sl i64) x0), (.fn 52 [])] [] [] (finC (.one .bool) κ)
    = f29_1.b L N (fun a0 => κ (.tv .bool a0)) x0 := by kernel_rfl
theorem f29_1.ok (L N : Nat) (hΦ : TellsOk Tryz.prog ((Φ54_1 L N))) : EntOkO Tryz.prog 29 (f29_1.ent L N) := by
  intro args vw site h a ha
  unfold f29_1.ent at ha
  split at ha
  · rename_i d hd
    obtain rfl := Option.some.inj ha
    intro y hy hs
    refine call_rof (dep := 1000) (E := (E29_1 L N)) (rs := (.one .bool)) (κ := unR (.one .bool)) (sound_of hΦ) okP (callI_sound (sound_of hΦ) okP 0 1000) (f := Tryz.f29) rfl hs hd ?_ (fun _ h => unR_some h) rfl site
    exact (f29_1.b_eq L N (unR (.one .bool)) d.1).trans (Eq.trans (b := f29_1.b L N some d.1) (by kernel_rfl) hy)
  · cases ha
def Φ29_1 (L N : Nat) : Tells := (addO (Φ54_1 L N) 29 (f29_1.ent L N))
theorem Φ29_1_ok (L N : Nat) : TellsOk Tryz.prog (Φ29_1 L N) := addO_ok (Φ54_1_ok L N) (f29_1.ok L N (Φ54_1_ok L N))
def f27.b' {R : Type} (L N : Nat) (k : Bool → Option R) (x0 : LI) : Option R :=
  (f29_1 L N x0).bind fun y0 =>
  k (!y0)
def f27.b {R : Type} (L N : Nat) (k : Bool → Option R) (x0 : LI) : Option R :=
  f27.b' L N k x0
def f27 (L N : Nat) (x0 : LI) : Option (Bool) := f27.b L N some x0
def f27.ent (L N : Nat) (args : List AV) (vw : View) (site : Nat) : Ans := match roD [(.sl i64)] vw args with
  | some d => ⟨Bool, f27 L N d.1, fun y => ((.tv .bool y), [], [])⟩
  | none => Ans.no
noncomputable def E27 (L N : Nat) : Env := { P := Tryz.prog, ty := tyOf, Φ := (Φ29_1 L N), inl := inlT, live := lives, liveX := livesX, L := L, dp := none, prom := promT, heal := healT, ren := renT }
theorem f27.b_eq {R : Type} (L N : Nat) (κ : AV → Option R) (x0 : LI) :
    evBody (E27 L N) (evCallI (E27 L N) 0 1000) 1000 27 Tryz.f27 [(.tv (.sl i64) x0)] [] [] (finC (.one .bool) κ)
    = f27.b L N (fun a0 => κ (.tv .bool a0)) x0 := by kernel_rfl
theorem f27.ok (L N : Nat) (hΦ : TellsOk Tryz.prog ((Φ29_1 L N))) : EntOk Tryz.prog 27 (f27.ent L N) := by
  intro args vw site h
  unfold f27.ent
  split
  · rename_i d ha
    intro y hy hs
    refine call_ro (dep := 1000) (E := (E27 L N)) (rs := (.one .bool)) (κ := unR (.one .bool)) (sound_of hΦ) okP (callI_sound (sound_of hΦ) okP 0 1000) (f := Tryz.f27) rfl hs ha ?_ (fun _ h => unR_some h) rfl site
    exact (f27.b_eq L N (unR (.one .bool)) d.1).trans (Eq.trans (b := f27.b L N some d.1) (by kernel_rfl) hy)
  · intro y hy
    cases hy
def Φ27 (L N : Nat) : Tells := (addT (Φ29_1 L N) 27 (f27.ent L N))
theorem Φ27_ok (L N : Nat) : TellsOk Tryz.prog (Φ27 L N) := addT_ok (Φ29_1_ok L N) (f27.ok L N (Φ29_1_ok L N))
def f39.b' {R : Type} (L N : Nat) (k : Bool → Option R) (x0 : LI) : Option R :=
  bif (decide ((x0.length : Int) ≤ (20 : Int))) then
    (f27 L N x0).bind fun y0 =>
    k y0
  else k false
def f39.b {R : Type} (L N : Nat) (k : Bool → Option R) (x0 : LI) : Option R :=
  f39.b' L N k x0
def f39 (L N : Nat) (x0 : LI) : Option (Bool) := f39.b L N some x0
def f39.ent (L N : Nat) (args : List AV) (vw : View) (site : Nat) : Ans := match roD [(.sl i64)] vw args with
  | some d => ⟨Bool, f39 L N d.1, fun y => ((.tv .bool y), [], [])⟩
  | none => Ans.no
noncomputable def E39 (L N : Nat) : Env := { P := Tryz.prog, ty := tyOf, Φ := (Φ27 L N), inl := inlT, live := lives, liveX := livesX, L := L, dp := none, prom := promT, heal := healT, ren := renT }
theorem f39.b_eq {R : Type} (L N : Nat) (κ : AV → Option R) (x0 : LI) :
    evBody (E39 L N) (evCallI (E39 L N) 0 1000) 1000 39 Tryz.f39 [(.tv (.sl i64) x0)] [] [] (finC (.one .bool) κ)
    = f39.b L N (fun a0 => κ (.tv .bool a0)) x0 := by kernel_rfl
theorem f39.ok (L N : Nat) (hΦ : TellsOk Tryz.prog ((Φ27 L N))) : EntOk Tryz.prog 39 (f39.ent L N) := by
  intro args vw site h
  unfold f39.ent
  split
  · rename_i d ha
    intro y hy hs
    refine call_ro (dep := 1000) (E := (E39 L N)) (rs := (.one .bool)) (κ := unR (.one .bool)) (sound_of hΦ) okP (callI_sound (sound_of hΦ) okP 0 1000) (f := Tryz.f39) rfl hs ha ?_ (fun _ h => unR_some h) rfl site
    exact (f39.b_eq L N (unR (.one .bool)) d.1).trans (Eq.trans (b := f39.b L N some d.1) (by kernel_rfl) hy)
  · intro y hy
    cases hy
def Φ39 (L N : Nat) : Tells := (addT (Φ27 L N) 39 (f39.ent L N))
theorem Φ39_ok (L N : Nat) : TellsOk Tryz.prog (Φ39 L N) := addT_ok (Φ27_ok L N) (f39.ok L N (Φ27_ok L N))
def f16.b' {R : Type} (L N : Nat) (k : LI → Option R) (x0 : Graph) (x1 : LI) : Option R :=
  (f21 L N (Graph.mk x0.moves)).bind fun y0 =>
  bif (!y0) then
    k []
  else (f39 L N x1).bind fun y1 =>
  bif (!y1) then
    k []
  else (f30 L N (Graph.mk x0.moves) x1).bind fun y9 =>
  k y9
def f16.b {R : Type} (L N : Nat) (k : LI → Option R) (x0 : Graph) (x1 : LI) : Option R :=
  f16.b' L N k x0 x1
def f16 (L N : Nat) (x0 : Graph) (x1 : LI) : Option (LI) := f16.b L N some x0 x1
def f16.ent (L N : Nat) (args : List AV) (vw : View) (site : Nat) : Ans := match roD [(.st 2), (.sl i64)] vw args with
  | some d => ⟨LI, f16 L N d.1 d.2.1, fun y => (RN.av site .row (), [(site, some (mkO none 3 i64 y))], [])⟩
  | none => Ans.no
noncomputable def E16 (L N : Nat) : Env := { P := Tryz.prog, ty := tyOf, Φ := (Φ39 L N), inl := inlT, live := lives, liveX := livesX, L := L, dp := none, prom := promT, heal := healT, ren := renT }
theorem f16.b_eq {R : Type} (L N : Nat) (κ : RN.Den .row → List Int → Option R) (x0 : Graph) (x1 : LI) :
    evBody (E16 L N) (evCallI (E16 L N) 0 1000) 1000 16 Tryz.f16 [(.tv (.st 2) x0), (.tv (.sl i64) x1)] [] [] (finN .row none 3 i64 κ)
    = f16.b L N (fun a0 => κ () a0) x0 x1 := by kernel_rfl
theorem f16.ok (L N : Nat) (hΦ : TellsOk Tryz.prog ((Φ39 L N))) : EntOk Tryz.prog 16 (f16.ent L N) := by
  intro args vw site h
  unfold f16.ent
  split
  · rename_i d ha
    intro y hy hs
    refine call_ron (y := y) (dep := 1000) (E := (E16 L N)) (ts := [(.st 2), (.sl i64)]) (rn := .row) (q := none) (el := 3) (ty := i64) (d1 := ()) (xs := y) (κ := (fun d xs => some xs)) (sound_of hΦ) okP (callI_sound (sound_of hΦ) okP 0 1000) (f := Tryz.f16) rfl hs ha ?_ (fun _ _ h => by obtain rfl := Option.some.inj h; exact ⟨rfl, rfl⟩) rfl site
    exact (f16.b_eq L N (fun d xs => some xs) d.1 d.2.1).trans (Eq.trans (b := f16.b L N some d.1 d.2.1) (by kernel_rfl) hy)
  · intro y hy
    cases hy
def Φ16 (L N : Nat) : Tells := (addT (Φ39 L N) 16 (f16.ent L N))
theorem Φ16_ok (L N : Nat) : TellsOk Tryz.prog (Φ16 L N) := addT_ok (Φ39_ok L N) (f16.ok L N (Φ39_ok L N))
def f6.b' {R : Type} (L N : Nat) (k : Bool → Option R) (x0 : Graph) (x1 : LI) : Option R :=
  (f16 L N (Graph.mk x0.moves) x1).bind fun y0 =>
  k (decide ((y0.length : Int) > (0 : Int)))
def f6.b {R : Type} (L N : Nat) (k : Bool → Option R) (x0 : Graph) (x1 : LI) : Option R :=
  f6.b' L N k x0 x1
def f6 (L N : Nat) (x0 : Graph) (x1 : LI) : Option (Bool) := f6.b L N some x0 x1
def f6.ent (L N : Nat) (args : List AV) (vw : View) (site : Nat) : Ans := match roD [(.st 2), (.sl i64)] vw args with
  | some d => ⟨Bool, f6 L N d.1 d.2.1, fun y => ((.tv .bool y), [], [])⟩
  | none => Ans.no
noncomputable def E6 (L N : Nat) : Env := { P := Tryz.prog, ty := tyOf, Φ := (Φ16 L N), inl := inlT, live := lives, liveX := livesX, L := L, dp := none, prom := promT, heal := healT, ren := renT }
theorem f6.b_eq {R : Type} (L N : Nat) (κ : AV → Option R) (x0 : Graph) (x1 : LI) :
    evBody (E6 L N) (evCallI (E6 L N) 0 1000) 1000 6 Tryz.f6 [(.tv (.st 2) x0), (.tv (.sl i64) x1)] [] [] (finC (.one .bool) κ)
    = f6.b L N (fun a0 => κ (.tv .bool a0)) x0 x1 := by kernel_rfl
theorem f6.ok (L N : Nat) (hΦ : TellsOk Tryz.prog ((Φ16 L N))) : EntOk Tryz.prog 6 (f6.ent L N) := by
  intro args vw site h
  unfold f6.ent
  split
  · rename_i d ha
    intro y hy hs
    refine call_ro (dep := 1000) (E := (E6 L N)) (rs := (.one .bool)) (κ := unR (.one .bool)) (sound_of hΦ) okP (callI_sound (sound_of hΦ) okP 0 1000) (f := Tryz.f6) rfl hs ha ?_ (fun _ h => unR_some h) rfl site
    exact (f6.b_eq L N (unR (.one .bool)) d.1 d.2.1).trans (Eq.trans (b := f6.b L N some d.1 d.2.1) (by kernel_rfl) hy)
  · intro y hy
    cases hy
def Φ6 (L N : Nat) : Tells := (addT (Φ16 L N) 6 (f6.ent L N))
theorem Φ6_ok (L N : Nat) : TellsOk Tryz.prog (Φ6 L N) := addT_ok (Φ16_ok L N) (f6.ok L N (Φ16_ok L N))
def f17.s1' {R : Type} (L N : Nat) (k1_e2 : Int → LLM → Option R) (k1_r : Bool → Int → LLM → Option R) (rec1 : Int → Int → LLM → Option R) (s3 : Int) (s4 : Int) (s5 : LLM) : Option R :=
  bif (decide (0 ≤ s3) && decide (s3 < (s5.length : Int))) then
    bif (decide (s4 < ((listAt s5 [] s3.toNat).length : Int))) then
      bif (decide (0 ≤ s3) && decide (s3 < (s5.length : Int))) then
        bif (decide (0 ≤ s4) && decide (s4 < ((listAt s5 [] s3.toNat).length : Int))) then
          (f41 L N ((listAt (listAt s5 [] s3.toNat) (Ty.dflt (.st 0)) s4.toNat).act)).bind fun y8 =>
          bif (!y8) then
            k1_r false s3 s5
          else (f40 L N ((listAt (listAt s5 [] s3.toNat) (Ty.dflt (.st 0)) s4.toNat).to) (0 : Int) (wi ((s5.length : Int) - (1 : Int)))).bind fun y9 =>
          bif (!y9) then
            k1_r false s3 s5
          else bif (decide (s4 > (0 : Int))) then
            bif (decide (0 ≤ s3) && decide (s3 < (s5.length : Int))) then
              bif (decide (0 ≤ (wi (s4 - (1 : Int)))) && decide ((wi (s4 - (1 : Int))) < ((listAt s5 [] s3.toNat).length : Int))) then
                (f42 L N (listAt (listAt s5 [] s3.toNat) (Ty.dflt (.st 0)) (wi (s4 - (1 : Int))).toNat) (Move.mk ((listAt (listAt s5 [] s3.toNat) (Ty.dflt (.st 0)) s4.toNat).act) ((listAt (listAt s5 [] s3.toNat) (Ty.dflt (.st 0)) s4.toNat).to))).bind fun y10 =>
                bif (!y10) then
                  k1_r false s3 s5
                else rec1 s3 (wi (s4 + (1 : Int))) s5
              else none
            else none
          else rec1 s3 (wi (s4 + (1 : Int))) s5
        else none
      else none
    else k1_e2 s3 s5
  else none
def f17.s1 {R : Type} (L N : Nat) (k1_e2 : Int → LLM → Option R) (k1_r : Bool → Int → LLM → Option R) (rec1 : Int → Int → LLM → Option R) (s3 : Int) (s4 : Int) (s5 : LLM) : Option R :=
  f17.s1' L N k1_e2 k1_r rec1 s3 s4 s5
def f17.l1 {R : Type} (L N : Nat) (k1_e2 : Int → LLM → Option R) (k1_r : Bool → Int → LLM → Option R) : Nat → Int → Int → LLM → Option R
  | 0, _, _, _ => none
  | n + 1, s3, s4, s5 => f17.s1 L N k1_e2 k1_r (f17.l1 L N k1_e2 k1_r n) s3 s4 s5
def f17.T1 (s3 : Int) (s4 : Int) (s5 : LLM) : T := mkT 68 [(1, (.ptr 1001 0)), (3, (.tv i64 s3)), (4, (.tv i64 s4))]
def f17.H1 (s3 : Int) (s4 : Int) (s5 : LLM) : H := [(1001, (.box [(.tv (.sl (.sl (.st 0))) s5)]))]
def f17.T1_e2 (z6 : Int) (z7 : LLM) : T := mkT 68 [(1, (.ptr 1001 0)), (3, (.tv i64 z6))]
def f17.H1_e2 (z6 : Int) (z7 : LLM) : H := [(1001, (.box [(.tv (.sl (.sl (.st 0))) z7)]))]
def f17.T1_r (z15 : Bool) (z16 : Int) (z17 : LLM) : T := mkT 68 [(1, (.ptr 1001 0)), (2, (.tv .bool z15)), (3, (.tv i64 z16))]
def f17.H1_r (z15 : Bool) (z16 : Int) (z17 : LLM) : H := [(1001, (.box [(.tv (.sl (.sl (.st 0))) z17)]))]
def f17.p1_e2' {R : Type} (L N : Nat) (k0_e0 : Option R) (k0_r : Bool → Option R) (rec0 : Int → LLM → Option R) (z6 : Int) (z7 : LLM) : Option R :=
  rec0 (wi (z6 + (1 : Int))) z7
def f17.p1_e2 {R : Type} (L N : Nat) (k0_e0 : Option R) (k0_r : Bool → Option R) (rec0 : Int → LLM → Option R) (z6 : Int) (z7 : LLM) : Option R :=
  f17.p1_e2' L N k0_e0 k0_r rec0 z6 z7
def f17.p1_r' {R : Type} (L N : Nat) (k0_e0 : Option R) (k0_r : Bool → Option R) (rec0 : Int → LLM → Option R) (z15 : Bool) (z16 : Int) (z17 : LLM) : Option R :=
  k0_r z15
def f17.p1_r {R : Type} (L N : Nat) (k0_e0 : Option R) (k0_r : Bool → Option R) (rec0 : Int → LLM → Option R) (z15 : Bool) (z16 : Int) (z17 : LLM) : Option R :=
  f17.p1_r' L N k0_e0 k0_r rec0 z15 z16 z17
def f17.s0' {R : Type} (L N : Nat) (k0_e0 : Option R) (k0_r : Bool → Option R) (rec0 : Int → LLM → Option R) (w1 : Int → Int → LLM → Option R) (s1 : Int) (s2 : LLM) : Option R :=
  bif (decide (s1 < (s2.length : Int))) then
    w1 s1 (0 : Int) s2
  else k0_e0
def f17.s0 {R : Type} (L N : Nat) (k0_e0 : Option R) (k0_r : Bool → Option R) (rec0 : Int → LLM → Option R) (s1 : Int) (s2 : LLM) : Option R :=
  f17.s0' L N k0_e0 k0_r rec0 (fun s3 s4 s5 => f17.l1 L N (fun z6 z7 => f17.p1_e2 L N k0_e0 k0_r rec0 z6 z7) (fun z15 z16 z17 => f17.p1_r L N k0_e0 k0_r rec0 z15 z16 z17) L s3 s4 s5) s1 s2
def f17.l0 {R : Type} (L N : Nat) (k0_e0 : Option R) (k0_r : Bool → Option R) : Nat → Int → LLM → Option R
  | 0, _, _ => none
  | n + 1, s1, s2 => f17.s0 L N k0_e0 k0_r (f17.l0 L N k0_e0 k0_r n) s1 s2
def f17.T0 (s1 : Int) (s2 : LLM) : T := mkT 68 [(1, (.ptr 1001 0)), (3, (.tv i64 s1))]
def f17.H0 (s1 : Int) (s2 : LLM) : H := [(1001, (.box [(.tv (.sl (.sl (.st 0))) s2)]))]
def f17.T0_e0 : T := mkT 68 []
def f17.H0_e0 : H := []
def f17.T0_r (z21 : Bool) : T := mkT 68 [(2, (.tv .bool z21))]
def f17.H0_r (z21 : Bool) : H := []
def f17.p0_e0' {R : Type} (L N : Nat) (k : Bool → Option R) : Option R :=
  k true
def f17.p0_e0 {R : Type} (L N : Nat) (k : Bool → Option R) : Option R :=
  f17.p0_e0' L N k
def f17.p0_r' {R : Type} (L N : Nat) (k : Bool → Option R) (z21 : Bool) : Option R :=
  k z21
def f17.p0_r {R : Type} (L N : Nat) (k : Bool → Option R) (z21 : Bool) : Option R :=
  f17.p0_r' L N k z21
def f17.b' {R : Type} (L N : Nat) (k : Bool → Option R) (w0 : Int → LLM → Option R) (x0 : Graph) : Option R :=
  (f40 L N (x0.moves.length : Int) (1 : Int) (60 : Int)).bind fun y0 =>
  bif (!y0) then
    k false
  else w0 (0 : Int) x0.moves
def f17.b {R : Type} (L N : Nat) (k : Bool → Option R) (x0 : Graph) : Option R :=
  f17.b' L N k (fun s1 s2 => f17.l0 L N (f17.p0_e0 L N k) (fun z21 => f17.p0_r L N k z21) L s1 s2) x0
def f17 (L N : Nat) (x0 : Graph) : Option (Bool) := f17.b L N some x0
def f17.ent (L N : Nat) (args : List AV) (vw : View) (site : Nat) : Ans := match roD [(.st 2)] vw args with
  | some d => ⟨Bool, f17 L N d.1, fun y => ((.tv .bool y), [], [])⟩
  | none => Ans.no
noncomputable def E17 (L N : Nat) : Env := { P := Tryz.prog, ty := tyOf, Φ := (Φ6 L N), inl := inlT, live := lives, liveX := livesX, L := L, dp := none, prom := promT, heal := healT, ren := renT }
noncomputable def f17.c0 : Code := loopAt 0 (codeOf Tryz.f17)
noncomputable def f17.c1 : Code := loopAt 2 f17.c0
theorem f17.s1_eq {R : Type} (L N : Nat) (κ : Ex → T → H → Option R) (rec : T → H → Option R) (s3 : Int) (s4 : Int) (s5 : LLM) :
    evRd (E17 L N) (evCallI (E17 L N) 0 1000) 1000 17 68 2 f17.c1 κ rec (f17.T1 s3 s4 s5) (f17.H1 s3 s4 s5)
    = f17.s1 L N (fun z6 z7 => κ (.exit 2) (f17.T1_e2 z6 z7) (f17.H1_e2 z6 z7)) (fun z15 z16 z17 => κ .ret (f17.T1_r z15 z16 z17) (f17.H1_r z15 z16 z17)) (fun s3 s4 s5 => rec (f17.T1 s3 s4 s5) (f17.H1 s3 s4 s5)) s3 s4 s5 := by kernel_rfl
theorem f17.l1_eq {R : Type} (L N : Nat) (κ : Ex → T → H → Option R) : ∀ (n : Nat) (s3 : Int) (s4 : Int) (s5 : LLM),
    evLp (E17 L N) (evCallI (E17 L N) 0 1000) 1000 17 68 2 f17.c1 κ n (f17.T1 s3 s4 s5) (f17.H1 s3 s4 s5)
    = f17.l1 L N (fun z6 z7 => κ (.exit 2) (f17.T1_e2 z6 z7) (f17.H1_e2 z6 z7)) (fun z15 z16 z17 => κ .ret (f17.T1_r z15 z16 z17) (f17.H1_r z15 z16 z17)) n s3 s4 s5 := by
  intro n
  induction n with
  | zero => intros; rfl
  | succ n ih =>
    intro s3 s4 s5
    rw [evLp_succ, f17.s1_eq]
    simp only [ih]
    rfl
theorem f17.p1_e2_eq {R : Type} (L N : Nat) (κ : Ex → T → H → Option R) (rec : T → H → Option R) (z6 : Int) (z7 : LLM) :
    (contAt (E17 L N) (evCallI (E17 L N) 0 1000) 1000 17 68 2 f17.c0 (rdK (E17 L N) 1000 17 68 0 κ rec)) (.exit 2) (f17.T1_e2 z6 z7) (f17.H1_e2 z6 z7)
    = f17.p1_e2 L N (κ (.exit 0) f17.T0_e0 f17.H0_e0) (fun z21 => κ .ret (f17.T0_r z21) (f17.H0_r z21)) (fun s1 s2 => rec (f17.T0 s1 s2) (f17.H0 s1 s2)) z6 z7 := by kernel_rfl
theorem f17.p1_r_eq {R : Type} (L N : Nat) (κ : Ex → T → H → Option R) (rec : T → H → Option R) (z15 : Bool) (z16 : Int) (z17 : LLM) :
    (contAt (E17 L N) (evCallI (E17 L N) 0 1000) 1000 17 68 2 f17.c0 (rdK (E17 L N) 1000 17 68 0 κ rec)) .ret (f17.T1_r z15 z16 z17) (f17.H1_r z15 z16 z17)
    = f17.p1_r L N (κ (.exit 0) f17.T0_e0 f17.H0_e0) (fun z21 => κ .ret (f17.T0_r z21) (f17.H0_r z21)) (fun s1 s2 => rec (f17.T0 s1 s2) (f17.H0 s1 s2)) z15 z16 z17 := by kernel_rfl
theorem f17.s0_eq {R : Type} (L N : Nat) (κ : Ex → T → H → Option R) (rec : T → H → Option R) (s1 : Int) (s2 : LLM) :
    evRd (E17 L N) (evCallI (E17 L N) 0 1000) 1000 17 68 0 f17.c0 κ rec (f17.T0 s1 s2) (f17.H0 s1 s2)
    = f17.s0 L N (κ (.exit 0) f17.T0_e0 f17.H0_e0) (fun z21 => κ .ret (f17.T0_r z21) (f17.H0_r z21)) (fun s1 s2 => rec (f17.T0 s1 s2) (f17.H0 s1 s2)) s1 s2 := by
  refine Eq.trans (b := f17.s0' L N (κ (.exit 0) f17.T0_e0 f17.H0_e0) (fun z21 => κ .ret (f17.T0_r z21) (f17.H0_r z21)) (fun s1 s2 => rec (f17.T0 s1 s2) (f17.H0 s1 s2)) (fun s3 s4 s5 => evLp (E17 L N) (evCallI (E17 L N) 0 1000) 1000 17 68 2 f17.c1 (contAt (E17 L N) (evCallI (E17 L N) 0 1000) 1000 17 68 2 f17.c0 (rdK (E17 L N) 1000 17 68 0 κ rec)) L (f17.T1 s3 s4 s5) (f17.H1 s3 s4 s5)) s1 s2) (by kernel_rfl) ?_
  unfold f17.s0
  simp only [f17.l1_eq, f17.p1_e2_eq, f17.p1_r_eq]
theorem f17.l0_eq {R : Type} (L N : Nat) (κ : Ex → T → H → Option R) : ∀ (n : Nat) (s1 : Int) (s2 : LLM),
    evLp (E17 L N) (evCallI (E17 L N) 0 1000) 1000 17 68 0 f17.c0 κ n (f17.T0 s1 s2) (f17.H0 s1 s2)
    = f17.l0 L N (κ (.exit 0) f17.T0_e0 f17.H0_e0) (fun z21 => κ .ret (f17.T0_r z21) (f17.H0_r z21)) n s1 s2 := by
  intro n
  induction n with
  | zero => intros; rfl
  | succ n ih =>
    intro s1 s2
    rw [evLp_succ, f17.s0_eq]
    simp only [ih]
    rfl
theorem f17.p0_e0_eq {R : Type} (L N : Nat) (κ : AV → Option R) :
    (contAt (E17 L N) (evCallI (E17 L N) 0 1000) 1000 17 68 0 (codeOf Tryz.f17) (finK (E17 L N) 1000 Tryz.f17 (finC (.one .bool) κ))) (.exit 0) f17.T0_e0 f17.H0_e0
    = f17.p0_e0 L N (fun a0 => κ (.tv .bool a0)) := by kernel_rfl
theorem f17.p0_r_eq {R : Type} (L N : Nat) (κ : AV → Option R) (z21 : Bool) :
    (contAt (E17 L N) (evCallI (E17 L N) 0 1000) 1000 17 68 0 (codeOf Tryz.f17) (finK (E17 L N) 1000 Tryz.f17 (finC (.one .bool) κ))) .ret (f17.T0_r z21) (f17.H0_r z21)
    = f17.p0_r L N (fun a0 => κ (.tv .bool a0)) z21 := by kernel_rfl
theorem f17.b_eq {R : Type} (L N : Nat) (κ : AV → Option R) (x0 : Graph) :
    evBody (E17 L N) (evCallI (E17 L N) 0 1000) 1000 17 Tryz.f17 [(.tv (.st 2) x0)] [] [] (finC (.one .bool) κ)
    = f17.b L N (fun a0 => κ (.tv .bool a0)) x0 := by
  refine Eq.trans (b := f17.b' L N (fun a0 => κ (.tv .bool a0)) (fun s1 s2 => evLp (E17 L N) (evCallI (E17 L N) 0 1000) 1000 17 68 0 f17.c0 (contAt (E17 L N) (evCallI (E17 L N) 0 1000) 1000 17 68 0 (codeOf Tryz.f17) (finK (E17 L N) 1000 Tryz.f17 (finC (.one .bool) κ))) L (f17.T0 s1 s2) (f17.H0 s1 s2)) x0) (by kernel_rfl) ?_
  unfold f17.b
  simp only [f17.l0_eq, f17.p0_e0_eq, f17.p0_r_eq]
theorem f17.ok (L N : Nat) (hΦ : TellsOk Tryz.prog ((Φ6 L N))) : EntOk Tryz.prog 17 (f17.ent L N) := by
  intro args vw site h
  unfold f17.ent
  split
  · rename_i d ha
    intro y hy hs
    refine call_ro (dep := 1000) (E := (E17 L N)) (rs := (.one .bool)) (κ := unR (.one .bool)) (sound_of hΦ) okP (callI_sound (sound_of hΦ) okP 0 1000) (f := Tryz.f17) rfl hs ha ?_ (fun _ h => unR_some h) rfl site
    exact (f17.b_eq L N (unR (.one .bool)) d.1).trans (Eq.trans (b := f17.b L N some d.1) (by kernel_rfl) hy)
  · intro y hy
    cases hy
def Φ17 (L N : Nat) : Tells := (addT (Φ6 L N) 17 (f17.ent L N))
theorem Φ17_ok (L N : Nat) : TellsOk Tryz.prog (Φ17 L N) := addT_ok (Φ6_ok L N) (f17.ok L N (Φ6_ok L N))
def f18.s0' {R : Type} (L N : Nat) (k0_e0 : LI → Option R) (k0_r : LI → Bool → Option R) (rec0 : LI → Int → Option R) (s0 : LI) (s1 : Int) : Option R :=
  bif (decide (s1 < (s0.length : Int))) then
    bif (decide (0 ≤ s1) && decide (s1 < (s0.length : Int))) then
      (f41 L N (listAt s0 (0 : Int) s1.toNat)).bind fun y3 =>
      bif (!y3) then
        k0_r s0 false
      else bif (decide (0 ≤ s1) && decide (s1 < (s0.length : Int))) then
        bif ((listAt s0 (0 : Int) s1.toNat) == (0 : Int)) then
          k0_r s0 false
        else rec0 s0 (wi (s1 + (1 : Int)))
      else none
    else none
  else k0_e0 s0
def f18.s0 {R : Type} (L N : Nat) (k0_e0 : LI → Option R) (k0_r : LI → Bool → Option R) (rec0 : LI → Int → Option R) (s0 : LI) (s1 : Int) : Option R :=
  f18.s0' L N k0_e0 k0_r rec0 s0 s1
def f18.l0 {R : Type} (L N : Nat) (k0_e0 : LI → Option R) (k0_r : LI → Bool → Option R) : Nat → LI → Int → Option R
  | 0, _, _ => none
  | n + 1, s0, s1 => f18.s0 L N k0_e0 k0_r (f18.l0 L N k0_e0 k0_r n) s0 s1
def f18.T0 (s0 : LI) (s1 : Int) : T := mkT 26 [(0, (.tv (.sl i64) s0)), (3, (.tv i64 s1))]
def f18.H0 (s0 : LI) (s1 : Int) : H := []
def f18.T0_e0 (z2 : LI) : T := mkT 26 [(0, (.tv (.sl i64) z2))]
def f18.H0_e0 (z2 : LI) : H := []
def f18.T0_r (z7 : LI) (z8 : Bool) : T := mkT 26 [(0, (.tv (.sl i64) z7)), (2, (.tv .bool z8))]
def f18.H0_r (z7 : LI) (z8 : Bool) : H := []
def f18.p0_e0' {R : Type} (L N : Nat) (k : Bool → Option R) (z2 : LI) : Option R :=
  k (decide ((z2.length : Int) ≤ (20 : Int)))
def f18.p0_e0 {R : Type} (L N : Nat) (k : Bool → Option R) (z2 : LI) : Option R :=
  f18.p0_e0' L N k z2
def f18.p0_r' {R : Type} (L N : Nat) (k : Bool → Option R) (z7 : LI) (z8 : Bool) : Option R :=
  k z8
def f18.p0_r {R : Type} (L N : Nat) (k : Bool → Option R) (z7 : LI) (z8 : Bool) : Option R :=
  f18.p0_r' L N k z7 z8
def f18.b' {R : Type} (L N : Nat) (k : Bool → Option R) (w0 : LI → Int → Option R) (x0 : LI) : Option R :=
  w0 x0 (0 : Int)
def f18.b {R : Type} (L N : Nat) (k : Bool → Option R) (x0 : LI) : Option R :=
  f18.b' L N k (fun s0 s1 => f18.l0 L N (fun z2 => f18.p0_e0 L N k z2) (fun z7 z8 => f18.p0_r L N k z7 z8) L s0 s1) x0
def f18 (L N : Nat) (x0 : LI) : Option (Bool) := f18.b L N some x0
def f18.ent (L N : Nat) (args : List AV) (vw : View) (site : Nat) : Ans := match roD [(.sl i64)] vw args with
  | some d => ⟨Bool, f18 L N d.1, fun y => ((.tv .bool y), [], [])⟩
  | none => Ans.no
noncomputable def E18 (L N : Nat) : Env := { P := Tryz.prog, ty := tyOf, Φ := (Φ17 L N), inl := inlT, live := lives, liveX := livesX, L := L, dp := none, prom := promT, heal := healT, ren := renT }
noncomputable def f18.c0 : Code := loopAt 0 (codeOf Tryz.f18)
theorem f18.s0_eq {R : Type} (L N : Nat) (κ : Ex → T → H → Option R) (rec : T → H → Option R) (s0 : LI) (s1 : Int) :
    evRd (E18 L N) (evCallI (E18 L N) 0 1000) 1000 18 26 0 f18.c0 κ rec (f18.T0 s0 s1) (f18.H0 s0 s1)
    = f18.s0 L N (fun z2 => κ (.exit 0) (f18.T0_e0 z2) (f18.H0_e0 z2)) (fun z7 z8 => κ .ret (f18.T0_r z7 z8) (f18.H0_r z7 z8)) (fun s0 s1 => rec (f18.T0 s0 s1) (f18.H0 s0 s1)) s0 s1 := by kernel_rfl
theorem f18.l0_eq {R : Type} (L N : Nat) (κ : Ex → T → H → Option R) : ∀ (n : Nat) (s0 : LI) (s1 : Int),
    evLp (E18 L N) (evCallI (E18 L N) 0 1000) 1000 18 26 0 f18.c0 κ n (f18.T0 s0 s1) (f18.H0 s0 s1)
    = f18.l0 L N (fun z2 => κ (.exit 0) (f18.T0_e0 z2) (f18.H0_e0 z2)) (fun z7 z8 => κ .ret (f18.T0_r z7 z8) (f18.H0_r z7 z8)) n s0 s1 := by
  intro n
  induction n with
  | zero => intros; rfl
  | succ n ih =>
    intro s0 s1
    rw [evLp_succ, f18.s0_eq]
    simp only [ih]
    rfl
theorem f18.p0_e0_eq {R : Type} (L N : Nat) (κ : AV → Option R) (z2 : LI) :
    (contAt (E18 L N) (evCallI (E18 L N) 0 1000) 1000 18 26 0 (codeOf Tryz.f18) (finK (E18 L N) 1000 Tryz.f18 (finC (.one .bool) κ))) (.exit 0) (f18.T0_e0 z2) (f18.H0_e0 z2)
    = f18.p0_e0 L N (fun a0 => κ (.tv .bool a0)) z2 := by kernel_rfl
theorem f18.p0_r_eq {R : Type} (L N : Nat) (κ : AV → Option R) (z7 : LI) (z8 : Bool) :
    (contAt (E18 L N) (evCallI (E18 L N) 0 1000) 1000 18 26 0 (codeOf Tryz.f18) (finK (E18 L N) 1000 Tryz.f18 (finC (.one .bool) κ))) .ret (f18.T0_r z7 z8) (f18.H0_r z7 z8)
    = f18.p0_r L N (fun a0 => κ (.tv .bool a0)) z7 z8 := by kernel_rfl
theorem f18.b_eq {R : Type} (L N : Nat) (κ : AV → Option R) (x0 : LI) :
    evBody (E18 L N) (evCallI (E18 L N) 0 1000) 1000 18 Tryz.f18 [(.tv (.sl i64) x0)] [] [] (finC (.one .bool) κ)
    = f18.b L N (fun a0 => κ (.tv .bool a0)) x0 := by
  refine Eq.trans (b := f18.b' L N (fun a0 => κ (.tv .bool a0)) (fun s0 s1 => evLp (E18 L N) (evCallI (E18 L N) 0 1000) 1000 18 26 0 f18.c0 (contAt (E18 L N) (evCallI (E18 L N) 0 1000) 1000 18 26 0 (codeOf Tryz.f18) (finK (E18 L N) 1000 Tryz.f18 (finC (.one .bool) κ))) L (f18.T0 s0 s1) (f18.H0 s0 s1)) x0) (by kernel_rfl) ?_
  unfold f18.b
  simp only [f18.l0_eq, f18.p0_e0_eq, f18.p0_r_eq]
theorem f18.ok (L N : Nat) (hΦ : TellsOk Tryz.prog ((Φ17 L N))) : EntOk Tryz.prog 18 (f18.ent L N) := by
  intro args vw site h
  unfold f18.ent
  split
  · rename_i d ha
    intro y hy hs
    refine call_ro (dep := 1000) (E := (E18 L N)) (rs := (.one .bool)) (κ := unR (.one .bool)) (sound_of hΦ) okP (callI_sound (sound_of hΦ) okP 0 1000) (f := Tryz.f18) rfl hs ha ?_ (fun _ h => unR_some h) rfl site
    exact (f18.b_eq L N (unR (.one .bool)) d.1).trans (Eq.trans (b := f18.b L N some d.1) (by kernel_rfl) hy)
  · intro y hy
    cases hy
def Φ18 (L N : Nat) : Tells := (addT (Φ17 L N) 18 (f18.ent L N))
theorem Φ18_ok (L N : Nat) : TellsOk Tryz.prog (Φ18 L N) := addT_ok (Φ17_ok L N) (f18.ok L N (Φ17_ok L N))
def f19.s0' {R : Type} (L N : Nat) (k0_e0 : Option R) (k0_r : Bool → Option R) (rec0 : LB → Int → Option R) (s0 : LB) (s1 : Int) : Option R :=
  bif (decide (s1 < (s0.length : Int))) then
    bif (decide (0 ≤ s1) && decide (s1 < (s0.length : Int))) then
      bif (listAt s0 false s1.toNat) then
        k0_r true
      else rec0 s0 (wi (s1 + (1 : Int)))
    else none
  else k0_e0
def f19.s0 {R : Type} (L N : Nat) (k0_e0 : Option R) (k0_r : Bool → Option R) (rec0 : LB → Int → Option R) (s0 : LB) (s1 : Int) : Option R :=
  f19.s0' L N k0_e0 k0_r rec0 s0 s1
def f19.l0 {R : Type} (L N : Nat) (k0_e0 : Option R) (k0_r : Bool → Option R) : Nat → LB → Int → Option R
  | 0, _, _ => none
  | n + 1, s0, s1 => f19.s0 L N k0_e0 k0_r (f19.l0 L N k0_e0 k0_r n) s0 s1
def f19.T0 (s0 : LB) (s1 : Int) : T := mkT 14 [(0, (.tv (.sl .bool) s0)), (3, (.tv i64 s1))]
def f19.H0 (s0 : LB) (s1 : Int) : H := []
def f19.T0_e0 : T := mkT 14 []
def f19.H0_e0 : H := []
def f19.T0_r (z2 : Bool) : T := mkT 14 [(2, (.tv .bool z2))]
def f19.H0_r (z2 : Bool) : H := []
def f19.p0_e0' {R : Type} (L N : Nat) (k : Bool → Option R) : Option R :=
  k false
def f19.p0_e0 {R : Type} (L N : Nat) (k : Bool → Option R) : Option R :=
  f19.p0_e0' L N k
def f19.p0_r' {R : Type} (L N : Nat) (k : Bool → Option R) (z2 : Bool) : Option R :=
  k z2
def f19.p0_r {R : Type} (L N : Nat) (k : Bool → Option R) (z2 : Bool) : Option R :=
  f19.p0_r' L N k z2
def f19.b' {R : Type} (L N : Nat) (k : Bool → Option R) (w0 : LB → Int → Option R) (x0 : LB) : Option R :=
  w0 x0 (0 : Int)
def f19.b {R : Type} (L N : Nat) (k : Bool → Option R) (x0 : LB) : Option R :=
  f19.b' L N k (fun s0 s1 => f19.l0 L N (f19.p0_e0 L N k) (fun z2 => f19.p0_r L N k z2) L s0 s1) x0
def f19 (L N : Nat) (x0 : LB) : Option (Bool) := f19.b L N some x0
def f19.ent (L N : Nat) (args : List AV) (vw : View) (site : Nat) : Ans := match roD [(.sl .bool)] vw args with
  | some d => ⟨Bool, f19 L N d.1, fun y => ((.tv .bool y), [], [])⟩
  | none => Ans.no
noncomputable def E19 (L N : Nat) : Env := { P := Tryz.prog, ty := tyOf, Φ := (Φ18 L N), inl := inlT, live := lives, liveX := livesX, L := L, dp := none, prom := promT, heal := healT, ren := renT }
noncomputable def f19.c0 : Code := loopAt 0 (codeOf Tryz.f19)
theorem f19.s0_eq {R : Type} (L N : Nat) (κ : Ex → T → H → Option R) (rec : T → H → Option R) (s0 : LB) (s1 : Int) :
    evRd (E19 L N) (evCallI (E19 L N) 0 1000) 1000 19 14 0 f19.c0 κ rec (f19.T0 s0 s1) (f19.H0 s0 s1)
    = f19.s0 L N (κ (.exit 0) f19.T0_e0 f19.H0_e0) (fun z2 => κ .ret (f19.T0_r z2) (f19.H0_r z2)) (fun s0 s1 => rec (f19.T0 s0 s1) (f19.H0 s0 s1)) s0 s1 := by kernel_rfl
theorem f19.l0_eq {R : Type} (L N : Nat) (κ : Ex → T → H → Option R) : ∀ (n : Nat) (s0 : LB) (s1 : Int),
    evLp (E19 L N) (evCallI (E19 L N) 0 1000) 1000 19 14 0 f19.c0 κ n (f19.T0 s0 s1) (f19.H0 s0 s1)
    = f19.l0 L N (κ (.exit 0) f19.T0_e0 f19.H0_e0) (fun z2 => κ .ret (f19.T0_r z2) (f19.H0_r z2)) n s0 s1 := by
  intro n
  induction n with
  | zero => intros; rfl
  | succ n ih =>
    intro s0 s1
    rw [evLp_succ, f19.s0_eq]
    simp only [ih]
    rfl
theorem f19.p0_e0_eq {R : Type} (L N : Nat) (κ : AV → Option R) :
    (contAt (E19 L N) (evCallI (E19 L N) 0 1000) 1000 19 14 0 (codeOf Tryz.f19) (finK (E19 L N) 1000 Tryz.f19 (finC (.one .bool) κ))) (.exit 0) f19.T0_e0 f19.H0_e0
    = f19.p0_e0 L N (fun a0 => κ (.tv .bool a0)) := by kernel_rfl
theorem f19.p0_r_eq {R : Type} (L N : Nat) (κ : AV → Option R) (z2 : Bool) :
    (contAt (E19 L N) (evCallI (E19 L N) 0 1000) 1000 19 14 0 (codeOf Tryz.f19) (finK (E19 L N) 1000 Tryz.f19 (finC (.one .bool) κ))) .ret (f19.T0_r z2) (f19.H0_r z2)
    = f19.p0_r L N (fun a0 => κ (.tv .bool a0)) z2 := by kernel_rfl
theorem f19.b_eq {R : Type} (L N : Nat) (κ : AV → Option R) (x0 : LB) :
    evBody (E19 L N) (evCallI (E19 L N) 0 1000) 1000 19 Tryz.f19 [(.tv (.sl .bool) x0)] [] [] (finC (.one .bool) κ)
    = f19.b L N (fun a0 => κ (.tv .bool a0)) x0 := by
  refine Eq.trans (b := f19.b' L N (fun a0 => κ (.tv .bool a0)) (fun s0 s1 => evLp (E19 L N) (evCallI (E19 L N) 0 1000) 1000 19 14 0 f19.c0 (contAt (E19 L N) (evCallI (E19 L N) 0 1000) 1000 19 14 0 (codeOf Tryz.f19) (finK (E19 L N) 1000 Tryz.f19 (finC (.one .bool) κ))) L (f19.T0 s0 s1) (f19.H0 s0 s1)) x0) (by kernel_rfl) ?_
  unfold f19.b
  simp only [f19.l0_eq, f19.p0_e0_eq, f19.p0_r_eq]
theorem f19.ok (L N : Nat) (hΦ : TellsOk Tryz.prog ((Φ18 L N))) : EntOk Tryz.prog 19 (f19.ent L N) := by
  intro args vw site h
  unfold f19.ent
  split
  · rename_i d ha
    intro y hy hs
    refine call_ro (dep := 1000) (E := (E19 L N)) (rs := (.one .bool)) (κ := unR (.one .bool)) (sound_of hΦ) okP (callI_sound (sound_of hΦ) okP 0 1000) (f := Tryz.f19) rfl hs ha ?_ (fun _ h => unR_some h) rfl site
    exact (f19.b_eq L N (unR (.one .bool)) d.1).trans (Eq.trans (b := f19.b L N some d.1) (by kernel_rfl) hy)
  · intro y hy
    cases hy
def Φ19 (L N : Nat) : Tells := (addT (Φ18 L N) 19 (f19.ent L N))
theorem Φ19_ok (L N : Nat) : TellsOk Tryz.prog (Φ19 L N) := addT_ok (Φ18_ok L N) (f19.ok L N (Φ18_ok L N))
def f68.j0' {R : Type} (L N : Nat) (k2_e4 : Bool → Int → LLM → LB → Option R) (rec2 : Bool → Int → Int → LLM → LB → Option R) (v20 : Bool) (v21 : Int) (v22 : Int) (v23 : Bool) (v24 : LLM) (v25 : Int) (v26 : Int) (v27 : LB) : Option R :=
  bif v23 then
    bif (decide (0 ≤ v26) && decide (v26 < (v27.length : Int))) then
      rec2 true v21 (wi (v22 + (1 : Int))) v24 (v27.set v26.toNat true)
    else none
  else rec2 v20 v21 (wi (v22 + (1 : Int))) v24 v27
def f68.s2' {R : Type} (L N : Nat) (k2_e4 : Bool → Int → LLM → LB → Option R) (rec2 : Bool → Int → Int → LLM → LB → Option R) (s11 : Bool) (s12 : Int) (s13 : Int) (s14 : LLM) (s15 : LB) : Option R :=
  bif (decide (0 ≤ s12) && decide (s12 < (s14.length : Int))) then
    bif (decide (s13 < ((listAt s14 [] s12.toNat).length : Int))) then
      bif (decide (0 ≤ s12) && decide (s12 < (s14.length : Int))) then
        bif (decide (0 ≤ s13) && decide (s13 < ((listAt s14 [] s12.toNat).length : Int))) then
          bif (decide (0 ≤ s12) && decide (s12 < (s15.length : Int))) then
            bif (listAt s15 false s12.toNat) then
              bif ((listAt (listAt s14 [] s12.toNat) (Ty.dflt (.st 0)) s13.toNat).act == (0 : Int)) then
                bif (decide (0 ≤ (listAt (listAt s14 [] s12.toNat) (Ty.dflt (.st 0)) s13.toNat).to) && decide ((listAt (listAt s14 [] s12.toNat) (Ty.dflt (.st 0)) s13.toNat).to < (s15.length : Int))) then
                  f68.j0' L N k2_e4 rec2 s11 s12 s13 (!(listAt s15 false ((listAt (listAt s14 [] s12.toNat) (Ty.dflt (.st 0)) s13.toNat).to).toNat)) s14 ((listAt (listAt s14 [] s12.toNat) (Ty.dflt (.st 0)) s13.toNat).act) ((listAt (listAt s14 [] s12.toNat) (Ty.dflt (.st 0)) s13.toNat).to) s15
                else none
              else f68.j0' L N k2_e4 rec2 s11 s12 s13 false s14 ((listAt (listAt s14 [] s12.toNat) (Ty.dflt (.st 0)) s13.toNat).act) ((listAt (listAt s14 [] s12.toNat) (Ty.dflt (.st 0)) s13.toNat).to) s15
            else f68.j0' L N k2_e4 rec2 s11 s12 s13 false s14 ((listAt (listAt s14 [] s12.toNat) (Ty.dflt (.st 0)) s13.toNat).act) ((listAt (listAt s14 [] s12.toNat) (Ty.dflt (.st 0)) s13.toNat).to) s15
          else none
        else none
      else none
    else k2_e4 s11 s12 s14 s15
  else none
def f68.s2 {R : Type} (L N : Nat) (k2_e4 : Bool → Int → LLM → LB → Option R) (rec2 : Bool → Int → Int → LLM → LB → Option R) (s11 : Bool) (s12 : Int) (s13 : Int) (s14 : LLM) (s15 : LB) : Option R :=
  f68.s2' L N k2_e4 rec2 s11 s12 s13 s14 s15
def f68.l2 {R : Type} (L N : Nat) (k2_e4 : Bool → Int → LLM → LB → Option R) : Nat → Bool → Int → Int → LLM → LB → Option R
  | 0, _, _, _, _, _ => none
  | n + 1, s11, s12, s13, s14, s15 => f68.s2 L N k2_e4 (f68.l2 L N k2_e4 n) s11 s12 s13 s14 s15
def f68.T2 (s11 : Bool) (s12 : Int) (s13 : Int) (s14 : LLM) (s15 : LB) : T := mkT 60 [(2, (.ptr 1002 0)), (5, (.row 1010)), (6, (.tv .bool s11)), (7, (.tv i64 s12)), (8, (.tv i64 s13))]
def f68.H2 (s11 : Bool) (s12 : Int) (s13 : Int) (s14 : LLM) (s15 : LB) : H := [(1002, (.box [(.tv (.sl (.sl (.st 0))) s14)])), (1010, (.row 4 .bool s15))]
def f68.T2_e4 (z16 : Bool) (z17 : Int) (z18 : LLM) (z19 : LB) : T := mkT 60 [(2, (.ptr 1002 0)), (5, (.row 1010)), (6, (.tv .bool z16)), (7, (.tv i64 z17))]
def f68.H2_e4 (z16 : Bool) (z17 : Int) (z18 : LLM) (z19 : LB) : H := [(1002, (.box [(.tv (.sl (.sl (.st 0))) z18)])), (1010, (.row 4 .bool z19))]
def f68.p2_e4' {R : Type} (L N : Nat) (k1_e2 : Bool → LLM → LB → Option R) (rec1 : Bool → Int → LLM → LB → Option R) (z16 : Bool) (z17 : Int) (z18 : LLM) (z19 : LB) : Option R :=
  rec1 z16 (wi (z17 + (1 : Int))) z18 z19
def f68.p2_e4 {R : Type} (L N : Nat) (k1_e2 : Bool → LLM → LB → Option R) (rec1 : Bool → Int → LLM → LB → Option R) (z16 : Bool) (z17 : Int) (z18 : LLM) (z19 : LB) : Option R :=
  f68.p2_e4' L N k1_e2 rec1 z16 z17 z18 z19
def f68.s1' {R : Type} (L N : Nat) (k1_e2 : Bool → LLM → LB → Option R) (rec1 : Bool → Int → LLM → LB → Option R) (w2 : Bool → Int → Int → LLM → LB → Option R) (s4 : Bool) (s5 : Int) (s6 : LLM) (s7 : LB) : Option R :=
  bif (decide (s5 < (s7.length : Int))) then
    w2 s4 s5 (0 : Int) s6 s7
  else k1_e2 s4 s6 s7
def f68.s1 {R : Type} (L N : Nat) (k1_e2 : Bool → LLM → LB → Option R) (rec1 : Bool → Int → LLM → LB → Option R) (s4 : Bool) (s5 : Int) (s6 : LLM) (s7 : LB) : Option R :=
  f68.s1' L N k1_e2 rec1 (fun s11 s12 s13 s14 s15 => f68.l2 L N (fun z16 z17 z18 z19 => f68.p2_e4 L N k1_e2 rec1 z16 z17 z18 z19) L s11 s12 s13 s14 s15) s4 s5 s6 s7
def f68.l1 {R : Type} (L N : Nat) (k1_e2 : Bool → LLM → LB → Option R) : Nat → Bool → Int → LLM → LB → Option R
  | 0, _, _, _, _ => none
  | n + 1, s4, s5, s6, s7 => f68.s1 L N k1_e2 (f68.l1 L N k1_e2 n) s4 s5 s6 s7
def f68.T1 (s4 : Bool) (s5 : Int) (s6 : LLM) (s7 : LB) : T := mkT 60 [(2, (.ptr 1002 0)), (5, (.row 1010)), (6, (.tv .bool s4)), (7, (.tv i64 s5))]
def f68.H1 (s4 : Bool) (s5 : Int) (s6 : LLM) (s7 : LB) : H := [(1002, (.box [(.tv (.sl (.sl (.st 0))) s6)])), (1010, (.row 4 .bool s7))]
def f68.T1_e2 (z8 : Bool) (z9 : LLM) (z10 : LB) : T := mkT 60 [(2, (.ptr 1002 0)), (5, (.row 1010)), (6, (.tv .bool z8))]
def f68.H1_e2 (z8 : Bool) (z9 : LLM) (z10 : LB) : H := [(1002, (.box [(.tv (.sl (.sl (.st 0))) z9)])), (1010, (.row 4 .bool z10))]
def f68.p1_e2' {R : Type} (L N : Nat) (k0_e0 : LB → Option R) (rec0 : Bool → LLM → LB → Option R) (z8 : Bool) (z9 : LLM) (z10 : LB) : Option R :=
  rec0 z8 z9 z10
def f68.p1_e2 {R : Type} (L N : Nat) (k0_e0 : LB → Option R) (rec0 : Bool → LLM → LB → Option R) (z8 : Bool) (z9 : LLM) (z10 : LB) : Option R :=
  f68.p1_e2' L N k0_e0 rec0 z8 z9 z10
def f68.s0' {R : Type} (L N : Nat) (k0_e0 : LB → Option R) (rec0 : Bool → LLM → LB → Option R) (w1 : Bool → Int → LLM → LB → Option R) (s0 : Bool) (s1 : LLM) (s2 : LB) : Option R :=
  bif s0 then
    w1 false (0 : Int) s1 s2
  else k0_e0 s2
def f68.s0 {R : Type} (L N : Nat) (k0_e0 : LB → Option R) (rec0 : Bool → LLM → LB → Option R) (s0 : Bool) (s1 : LLM) (s2 : LB) : Option R :=
  f68.s0' L N k0_e0 rec0 (fun s4 s5 s6 s7 => f68.l1 L N (fun z8 z9 z10 => f68.p1_e2 L N k0_e0 rec0 z8 z9 z10) L s4 s5 s6 s7) s0 s1 s2
def f68.l0 {R : Type} (L N : Nat) (k0_e0 : LB → Option R) : Nat → Bool → LLM → LB → Option R
  | 0, _, _, _ => none
  | n + 1, s0, s1, s2 => f68.s0 L N k0_e0 (f68.l0 L N k0_e0 n) s0 s1 s2
def f68.T0 (s0 : Bool) (s1 : LLM) (s2 : LB) : T := mkT 60 [(2, (.ptr 1002 0)), (5, (.row 1010)), (6, (.tv .bool s0))]
def f68.H0 (s0 : Bool) (s1 : LLM) (s2 : LB) : H := [(1002, (.box [(.tv (.sl (.sl (.st 0))) s1)])), (1010, (.row 4 .bool s2))]
def f68.T0_e0 (z3 : LB) : T := mkT 60 [(5, (.row 1010))]
def f68.H0_e0 (z3 : LB) : H := [(1010, (.row 4 .bool z3))]
def f68.p0_e0' {R : Type} (L N : Nat) (k : LB → Option R) (z3 : LB) : Option R :=
  k z3
def f68.p0_e0 {R : Type} (L N : Nat) (k : LB → Option R) (z3 : LB) : Option R :=
  f68.p0_e0' L N k z3
def f68.b' {R : Type} (L N : Nat) (k : LB → Option R) (w0 : Bool → LLM → LB → Option R) (x0 : Graph) (x1 : LB) : Option R :=
  bif (decide (([] : LB).length + x1.length ≤ lim)) then
    w0 true x0.moves (([] : LB) ++ x1)
  else none
def f68.b {R : Type} (L N : Nat) (k : LB → Option R) (x0 : Graph) (x1 : LB) : Option R :=
  f68.b' L N k (fun s0 s1 s2 => f68.l0 L N (fun z3 => f68.p0_e0 L N k z3) L s0 s1 s2) x0 x1
def f68 (L N : Nat) (x0 : Graph) (x1 : LB) : Option (LB) := f68.b L N some x0 x1
def f68.ent (L N : Nat) (args : List AV) (vw : View) (site : Nat) : Ans := match coeD [(.st 2), (.sl .bool)] vw args with
  | some (d, u) => ⟨LB, f68 L N d.1 d.2.1, fun y => ((.tv (.sl .bool) y), u, [])⟩
  | none => Ans.no
noncomputable def E68 (L N : Nat) : Env := { P := Tryz.prog, ty := tyOf, Φ := (Φ19 L N), inl := inlT, live := lives, liveX := livesX, L := L, dp := none, prom := promT, heal := healT, ren := renT }
noncomputable def f68.c0 : Code := loopAt 0 (codeOf Tryz.f68)
noncomputable def f68.c1 : Code := loopAt 2 f68.c0
noncomputable def f68.c2 : Code := loopAt 4 f68.c1
theorem f68.s2_eq {R : Type} (L N : Nat) (κ : Ex → T → H → Option R) (rec : T → H → Option R) (s11 : Bool) (s12 : Int) (s13 : Int) (s14 : LLM) (s15 : LB) :
    evRd (E68 L N) (evCallI (E68 L N) 0 1000) 1000 68 60 4 f68.c2 κ rec (f68.T2 s11 s12 s13 s14 s15) (f68.H2 s11 s12 s13 s14 s15)
    = f68.s2 L N (fun z16 z17 z18 z19 => κ (.exit 4) (f68.T2_e4 z16 z17 z18 z19) (f68.H2_e4 z16 z17 z18 z19)) (fun s11 s12 s13 s14 s15 => rec (f68.T2 s11 s12 s13 s14 s15) (f68.H2 s11 s12 s13 s14 s15)) s11 s12 s13 s14 s15 := by kernel_rfl
theorem f68.l2_eq {R : Type} (L N : Nat) (κ : Ex → T → H → Option R) : ∀ (n : Nat) (s11 : Bool) (s12 : Int) (s13 : Int) (s14 : LLM) (s15 : LB),
    evLp (E68 L N) (evCallI (E68 L N) 0 1000) 1000 68 60 4 f68.c2 κ n (f68.T2 s11 s12 s13 s14 s15) (f68.H2 s11 s12 s13 s14 s15)
    = f68.l2 L N (fun z16 z17 z18 z19 => κ (.exit 4) (f68.T2_e4 z16 z17 z18 z19) (f68.H2_e4 z16 z17 z18 z19)) n s11 s12 s13 s14 s15 := by
  intro n
  induction n with
  | zero => intros; rfl
  | succ n ih =>
    intro s11 s12 s13 s14 s15
    rw [evLp_succ, f68.s2_eq]
    simp only [ih]
    rfl
theorem f68.p2_e4_eq {R : Type} (L N : Nat) (κ : Ex → T → H → Option R) (rec : T → H → Option R) (z16 : Bool) (z17 : Int) (z18 : LLM) (z19 : LB) :
    (contAt (E68 L N) (evCallI (E68 L N) 0 1000) 1000 68 60 4 f68.c1 (rdK (E68 L N) 1000 68 60 2 κ rec)) (.exit 4) (f68.T2_e4 z16 z17 z18 z19) (f68.H2_e4 z16 z17 z18 z19)
    = f68.p2_e4 L N (fun z8 z9 z10 => κ (.exit 2) (f68.T1_e2 z8 z9 z10) (f68.H1_e2 z8 z9 z10)) (fun s4 s5 s6 s7 => rec (f68.T1 s4 s5 s6 s7) (f68.H1 s4 s5 s6 s7)) z16 z17 z18 z19 := by kernel_rfl
theorem f68.s1_eq {R : Type} (L N : Nat) (κ : Ex → T → H → Option R) (rec : T → H → Option R) (s4 : Bool) (s5 : Int) (s6 : LLM) (s7 : LB) :
    evRd (E68 L N) (evCallI (E68 L N) 0 1000) 1000 68 60 2 f68.c1 κ rec (f68.T1 s4 s5 s6 s7) (f68.H1 s4 s5 s6 s7)
    = f68.s1 L N (fun z8 z9 z10 => κ (.exit 2) (f68.T1_e2 z8 z9 z10) (f68.H1_e2 z8 z9 z10)) (fun s4 s5 s6 s7 => rec (f68.T1 s4 s5 s6 s7) (f68.H1 s4 s5 s6 s7)) s4 s5 s6 s7 := by
  refine Eq.trans (b := f68.s1' L N (fun z8 z9 z10 => κ (.exit 2) (f68.T1_e2 z8 z9 z10) (f68.H1_e2 z8 z9 z10)) (fun s4 s5 s6 s7 => rec (f68.T1 s4 s5 s6 s7) (f68.H1 s4 s5 s6 s7)) (fun s11 s12 s13 s14 s15 => evLp (E68 L N) (evCallI (E68 L N) 0 1000) 1000 68 60 4 f68.c2 (contAt (E68 L N) (evCallI (E68 L N) 0 1000) 1000 68 60 4 f68.c1 (rdK (E68 L N) 1000 68 60 2 κ rec)) L (f68.T2 s11 s12 s13 s14 s15) (f68.H2 s11 s12 s13 s14 s15)) s4 s5 s6 s7) (by kernel_rfl) ?_
  unfold f68.s1
  simp only [f68.l2_eq, f68.p2_e4_eq]
theorem f68.l1_eq {R : Type} (L N : Nat) (κ : Ex → T → H → Option R) : ∀ (n : Nat) (s4 : Bool) (s5 : Int) (s6 : LLM) (s7 : LB),
    evLp (E68 L N) (evCallI (E68 L N) 0 1000) 1000 68 60 2 f68.c1 κ n (f68.T1 s4 s5 s6 s7) (f68.H1 s4 s5 s6 s7)
    = f68.l1 L N (fun z8 z9 z10 => κ (.exit 2) (f68.T1_e2 z8 z9 z10) (f68.H1_e2 z8 z9 z10)) n s4 s5 s6 s7 := by
  intro n
  induction n with
  | zero => intros; rfl
  | succ n ih =>
    intro s4 s5 s6 s7
    rw [evLp_succ, f68.s1_eq]
    simp only [ih]
    rfl
theorem f68.p1_e2_eq {R : Type} (L N : Nat) (κ : Ex → T → H → Option R) (rec : T → H → Option R) (z8 : Bool) (z9 : LLM) (z10 : LB) :
    (contAt (E68 L N) (evCallI (E68 L N) 0 1000) 1000 68 60 2 f68.c0 (rdK (E68 L N) 1000 68 60 0 κ rec)) (.exit 2) (f68.T1_e2 z8 z9 z10) (f68.H1_e2 z8 z9 z10)
    = f68.p1_e2 L N (fun z3 => κ (.exit 0) (f68.T0_e0 z3) (f68.H0_e0 z3)) (fun s0 s1 s2 => rec (f68.T0 s0 s1 s2) (f68.H0 s0 s1 s2)) z8 z9 z10 := by kernel_rfl
theorem f68.s0_eq {R : Type} (L N : Nat) (κ : Ex → T → H → Option R) (rec : T → H → Option R) (s0 : Bool) (s1 : LLM) (s2 : LB) :
    evRd (E68 L N) (evCallI (E68 L N) 0 1000) 1000 68 60 0 f68.c0 κ rec (f68.T0 s0 s1 s2) (f68.H0 s0 s1 s2)
    = f68.s0 L N (fun z3 => κ (.exit 0) (f68.T0_e0 z3) (f68.H0_e0 z3)) (fun s0 s1 s2 => rec (f68.T0 s0 s1 s2) (f68.H0 s0 s1 s2)) s0 s1 s2 := by
  refine Eq.trans (b := f68.s0' L N (fun z3 => κ (.exit 0) (f68.T0_e0 z3) (f68.H0_e0 z3)) (fun s0 s1 s2 => rec (f68.T0 s0 s1 s2) (f68.H0 s0 s1 s2)) (fun s4 s5 s6 s7 => evLp (E68 L N) (evCallI (E68 L N) 0 1000) 1000 68 60 2 f68.c1 (contAt (E68 L N) (evCallI (E68 L N) 0 1000) 1000 68 60 2 f68.c0 (rdK (E68 L N) 1000 68 60 0 κ rec)) L (f68.T1 s4 s5 s6 s7) (f68.H1 s4 s5 s6 s7)) s0 s1 s2) (by kernel_rfl) ?_
  unfold f68.s0
  simp only [f68.l1_eq, f68.p1_e2_eq]
theorem f68.l0_eq {R : Type} (L N : Nat) (κ : Ex → T → H → Option R) : ∀ (n : Nat) (s0 : Bool) (s1 : LLM) (s2 : LB),
    evLp (E68 L N) (evCallI (E68 L N) 0 1000) 1000 68 60 0 f68.c0 κ n (f68.T0 s0 s1 s2) (f68.H0 s0 s1 s2)
    = f68.l0 L N (fun z3 => κ (.exit 0) (f68.T0_e0 z3) (f68.H0_e0 z3)) n s0 s1 s2 := by
  intro n
  induction n with
  | zero => intros; rfl
  | succ n ih =>
    intro s0 s1 s2
    rw [evLp_succ, f68.s0_eq]
    simp only [ih]
    rfl
theorem f68.p0_e0_eq {R : Type} (L N : Nat) (κ : AV → Option R) (z3 : LB) :
    (contAt (E68 L N) (evCallI (E68 L N) 0 1000) 1000 68 60 0 (codeOf Tryz.f68) (finK (E68 L N) 1000 Tryz.f68 (finC (.one (.sl .bool)) κ))) (.exit 0) (f68.T0_e0 z3) (f68.H0_e0 z3)
    = f68.p0_e0 L N (fun a0 => κ (.tv (.sl .bool) a0)) z3 := by kernel_rfl
theorem f68.b_eq {R : Type} (L N : Nat) (κ : AV → Option R) (x0 : Graph) (x1 : LB) :
    evBody (E68 L N) (evCallI (E68 L N) 0 1000) 1000 68 Tryz.f68 [(.tv (.st 2) x0), (.tv (.sl .bool) x1)] [] [] (finC (.one (.sl .bool)) κ)
    = f68.b L N (fun a0 => κ (.tv (.sl .bool) a0)) x0 x1 := by
  refine Eq.trans (b := f68.b' L N (fun a0 => κ (.tv (.sl .bool) a0)) (fun s0 s1 s2 => evLp (E68 L N) (evCallI (E68 L N) 0 1000) 1000 68 60 0 f68.c0 (contAt (E68 L N) (evCallI (E68 L N) 0 1000) 1000 68 60 0 (codeOf Tryz.f68) (finK (E68 L N) 1000 Tryz.f68 (finC (.one (.sl .bool)) κ))) L (f68.T0 s0 s1 s2) (f68.H0 s0 s1 s2)) x0 x1) (by kernel_rfl) ?_
  unfold f68.b
  simp only [f68.l0_eq, f68.p0_e0_eq]
theorem f68.ok (L N : Nat) (hΦ : TellsOk Tryz.prog ((Φ19 L N))) : EntOk Tryz.prog 68 (f68.ent L N) := by
  intro args vw site h
  unfold f68.ent
  split
  · rename_i d u ha
    intro y hy hs
    refine call_data (dep := 1000) (E := (E68 L N)) (rs := (.one (.sl .bool))) (κ := unR (.one (.sl .bool))) (sound_of hΦ) okP (callI_sound (sound_of hΦ) okP 0 1000) (f := Tryz.f68) rfl hs ha ?_ (fun _ h => unR_some h) site
    exact (f68.b_eq L N (unR (.one (.sl .bool))) d.1 d.2.1).trans (Eq.trans (b := f68.b L N some d.1 d.2.1) (by kernel_rfl) hy)
  · intro y hy
    cases hy
def Φ68 (L N : Nat) : Tells := (addT (Φ19 L N) 68 (f68.ent L N))
theorem Φ68_ok (L N : Nat) : TellsOk Tryz.prog (Φ68 L N) := addT_ok (Φ19_ok L N) (f68.ok L N (Φ19_ok L N))
def f43.b' {R : Type} (L N : Nat) (k : LB → Option R) (x0 : Graph) : Option R :=
  bif (decide (0 ≤ (x0.moves.length : Int)) && decide ((x0.moves.length : Int) ≤ (lim : Int))) then
    bif (decide (0 ≤ (0 : Int)) && decide ((0 : Int) < ((List.replicate (x0.moves.length : Int).toNat false).length : Int))) then
      (f68 L N (Graph.mk x0.moves) ((List.replicate (x0.moves.length : Int).toNat false).set ((0 : Int).toNat) true)).bind fun y0 =>
      k y0
    else none
  else none
def f43.b {R : Type} (L N : Nat) (k : LB → Option R) (x0 : Graph) : Option R :=
  f43.b' L N k x0
def f43 (L N : Nat) (x0 : Graph) : Option (LB) := f43.b L N some x0
def f43.ent (L N : Nat) (args : List AV) (vw : View) (site : Nat) : Ans := match coeD [(.st 2)] vw args with
  | some (d, u) => ⟨LB, f43 L N d.1, fun y => ((.tv (.sl .bool) y), u, [])⟩
  | none => Ans.no
noncomputable def E43 (L N : Nat) : Env := { P := Tryz.prog, ty := tyOf, Φ := (Φ68 L N), inl := inlT, live := lives, liveX := livesX, L := L, dp := none, prom := promT, heal := healT, ren := renT }
theorem f43.b_eq {R : Type} (L N : Nat) (κ : AV → Option R) (x0 : Graph) :
    evBody (E43 L N) (evCallI (E43 L N) 0 1000) 1000 43 Tryz.f43 [(.tv (.st 2) x0)] [] [] (finC (.one (.sl .bool)) κ)
    = f43.b L N (fun a0 => κ (.tv (.sl .bool) a0)) x0 := by kernel_rfl
theorem f43.ok (L N : Nat) (hΦ : TellsOk Tryz.prog ((Φ68 L N))) : EntOk Tryz.prog 43 (f43.ent L N) := by
  intro args vw site h
  unfold f43.ent
  split
  · rename_i d u ha
    intro y hy hs
    refine call_data (dep := 1000) (E := (E43 L N)) (rs := (.one (.sl .bool))) (κ := unR (.one (.sl .bool))) (sound_of hΦ) okP (callI_sound (sound_of hΦ) okP 0 1000) (f := Tryz.f43) rfl hs ha ?_ (fun _ h => unR_some h) site
    exact (f43.b_eq L N (unR (.one (.sl .bool))) d.1).trans (Eq.trans (b := f43.b L N some d.1) (by kernel_rfl) hy)
  · intro y hy
    cases hy
def Φ43 (L N : Nat) : Tells := (addT (Φ68 L N) 43 (f43.ent L N))
theorem Φ43_ok (L N : Nat) : TellsOk Tryz.prog (Φ43 L N) := addT_ok (Φ68_ok L N) (f43.ok L N (Φ68_ok L N))
def f44.j0' {R : Type} (L N : Nat) (k1_e2 : LB → Int → Int → LLM → LB → Option R) (rec1 : LB → Int → Int → Int → LLM → LB → Option R) (v18 : LB) (v19 : Int) (v20 : Int) (v21 : Int) (v22 : Bool) (v23 : LLM) (v24 : LB) : Option R :=
  bif v22 then
    bif (decide (0 ≤ v20) && decide (v20 < (v23.length : Int))) then
      bif (decide (0 ≤ v21) && decide (v21 < ((listAt v23 [] v20.toNat).length : Int))) then
        bif (decide (0 ≤ (listAt (listAt v23 [] v20.toNat) (Ty.dflt (.st 0)) v21.toNat).to) && decide ((listAt (listAt v23 [] v20.toNat) (Ty.dflt (.st 0)) v21.toNat).to < (v24.length : Int))) then
          rec1 v18 v19 v20 (wi (v21 + (1 : Int))) v23 (v24.set (((listAt (listAt v23 [] v20.toNat) (Ty.dflt (.st 0)) v21.toNat).to).toNat) true)
        else none
      else none
    else none
  else rec1 v18 v19 v20 (wi (v21 + (1 : Int))) v23 v24
def f44.s1' {R : Type} (L N : Nat) (k1_e2 : LB → Int → Int → LLM → LB → Option R) (rec1 : LB → Int → Int → Int → LLM → LB → Option R) (s7 : LB) (s8 : Int) (s9 : Int) (s10 : Int) (s11 : LLM) (s12 : LB) : Option R :=
  bif (decide (0 ≤ s9) && decide (s9 < (s11.length : Int))) then
    bif (decide (s10 < ((listAt s11 [] s9.toNat).length : Int))) then
      bif (decide (0 ≤ s9) && decide (s9 < (s7.length : Int))) then
        bif (listAt s7 false s9.toNat) then
          bif (decide (0 ≤ s9) && decide (s9 < (s11.length : Int))) then
            bif (decide (0 ≤ s10) && decide (s10 < ((listAt s11 [] s9.toNat).length : Int))) then
              f44.j0' L N k1_e2 rec1 s7 s8 s9 s10 ((listAt (listAt s11 [] s9.toNat) (Ty.dflt (.st 0)) s10.toNat).act == s8) s11 s12
            else none
          else none
        else f44.j0' L N k1_e2 rec1 s7 s8 s9 s10 false s11 s12
      else none
    else k1_e2 s7 s8 s9 s11 s12
  else none
def f44.s1 {R : Type} (L N : Nat) (k1_e2 : LB → Int → Int → LLM → LB → Option R) (rec1 : LB → Int → Int → Int → LLM → LB → Option R) (s7 : LB) (s8 : Int) (s9 : Int) (s10 : Int) (s11 : LLM) (s12 : LB) : Option R :=
  f44.s1' L N k1_e2 rec1 s7 s8 s9 s10 s11 s12
def f44.l1 {R : Type} (L N : Nat) (k1_e2 : LB → Int → Int → LLM → LB → Option R) : Nat → LB → Int → Int → Int → LLM → LB → Option R
  | 0, _, _, _, _, _, _ => none
  | n + 1, s7, s8, s9, s10, s11, s12 => f44.s1 L N k1_e2 (f44.l1 L N k1_e2 n) s7 s8 s9 s10 s11 s12
def f44.T1 (s7 : LB) (s8 : Int) (s9 : Int) (s10 : Int) (s11 : LLM) (s12 : LB) : T := mkT 60 [(1, (.tv (.sl .bool) s7)), (2, (.tv i64 s8)), (3, (.ptr 1003 0)), (7, (.row 1012)), (8, (.tv i64 s9)), (9, (.tv i64 s10))]
def f44.H1 (s7 : LB) (s8 : Int) (s9 : Int) (s10 : Int) (s11 : LLM) (s12 : LB) : H := [(1003, (.box [(.tv (.sl (.sl (.st 0))) s11)])), (1012, (.row 4 .bool s12))]
def f44.T1_e2 (z13 : LB) (z14 : Int) (z15 : Int) (z16 : LLM) (z17 : LB) : T := mkT 60 [(1, (.tv (.sl .bool) z13)), (2, (.tv i64 z14)), (3, (.ptr 1003 0)), (7, (.row 1012)), (8, (.tv i64 z15))]
def f44.H1_e2 (z13 : LB) (z14 : Int) (z15 : Int) (z16 : LLM) (z17 : LB) : H := [(1003, (.box [(.tv (.sl (.sl (.st 0))) z16)])), (1012, (.row 4 .bool z17))]
def f44.p1_e2' {R : Type} (L N : Nat) (k0_e0 : LLM → LB → Option R) (rec0 : LB → Int → Int → LLM → LB → Option R) (z13 : LB) (z14 : Int) (z15 : Int) (z16 : LLM) (z17 : LB) : Option R :=
  rec0 z13 z14 (wi (z15 + (1 : Int))) z16 z17
def f44.p1_e2 {R : Type} (L N : Nat) (k0_e0 : LLM → LB → Option R) (rec0 : LB → Int → Int → LLM → LB → Option R) (z13 : LB) (z14 : Int) (z15 : Int) (z16 : LLM) (z17 : LB) : Option R :=
  f44.p1_e2' L N k0_e0 rec0 z13 z14 z15 z16 z17
def f44.s0' {R : Type} (L N : Nat) (k0_e0 : LLM → LB → Option R) (rec0 : LB → Int → Int → LLM → LB → Option R) (w1 : LB → Int → Int → Int → LLM → LB → Option R) (s0 : LB) (s1 : Int) (s2 : Int) (s3 : LLM) (s4 : LB) : Option R :=
  bif (decide (s2 < (s0.length : Int))) then
    w1 s0 s1 s2 (0 : Int) s3 s4
  else k0_e0 s3 s4
def f44.s0 {R : Type} (L N : Nat) (k0_e0 : LLM → LB → Option R) (rec0 : LB → Int → Int → LLM → LB → Option R) (s0 : LB) (s1 : Int) (s2 : Int) (s3 : LLM) (s4 : LB) : Option R :=
  f44.s0' L N k0_e0 rec0 (fun s7 s8 s9 s10 s11 s12 => f44.l1 L N (fun z13 z14 z15 z16 z17 => f44.p1_e2 L N k0_e0 rec0 z13 z14 z15 z16 z17) L s7 s8 s9 s10 s11 s12) s0 s1 s2 s3 s4
def f44.l0 {R : Type} (L N : Nat) (k0_e0 : LLM → LB → Option R) : Nat → LB → Int → Int → LLM → LB → Option R
  | 0, _, _, _, _, _ => none
  | n + 1, s0, s1, s2, s3, s4 => f44.s0 L N k0_e0 (f44.l0 L N k0_e0 n) s0 s1 s2 s3 s4
def f44.T0 (s0 : LB) (s1 : Int) (s2 : Int) (s3 : LLM) (s4 : LB) : T := mkT 60 [(1, (.tv (.sl .bool) s0)), (2, (.tv i64 s1)), (3, (.ptr 1003 0)), (7, (.row 1012)), (8, (.tv i64 s2))]
def f44.H0 (s0 : LB) (s1 : Int) (s2 : Int) (s3 : LLM) (s4 : LB) : H := [(1003, (.box [(.tv (.sl (.sl (.st 0))) s3)])), (1012, (.row 4 .bool s4))]
def f44.T0_e0 (z5 : LLM) (z6 : LB) : T := mkT 60 [(3, (.ptr 1003 0)), (7, (.row 1012))]
def f44.H0_e0 (z5 : LLM) (z6 : LB) : H := [(1003, (.box [(.tv (.sl (.sl (.st 0))) z5)])), (1012, (.row 4 .bool z6))]
def f44.p0_e0' {R : Type} (L N : Nat) (k : LB → Option R) (z5 : LLM) (z6 : LB) : Option R :=
  (f68 L N (Graph.mk z5) z6).bind fun y31 =>
  k y31
def f44.p0_e0 {R : Type} (L N : Nat) (k : LB → Option R) (z5 : LLM) (z6 : LB) : Option R :=
  f44.p0_e0' L N k z5 z6
def f44.b' {R : Type} (L N : Nat) (k : LB → Option R) (w0 : LB → Int → Int → LLM → LB → Option R) (x0 : Graph) (x1 : LB) (x2 : Int) : Option R :=
  bif (decide (0 ≤ (x1.length : Int)) && decide ((x1.length : Int) ≤ (lim : Int))) then
    w0 x1 x2 (0 : Int) x0.moves (List.replicate (x1.length : Int).toNat false)
  else none
def f44.b {R : Type} (L N : Nat) (k : LB → Option R) (x0 : Graph) (x1 : LB) (x2 : Int) : Option R :=
  f44.b' L N k (fun s0 s1 s2 s3 s4 => f44.l0 L N (fun z5 z6 => f44.p0_e0 L N k z5 z6) L s0 s1 s2 s3 s4) x0 x1 x2
def f44 (L N : Nat) (x0 : Graph) (x1 : LB) (x2 : Int) : Option (LB) := f44.b L N some x0 x1 x2
def f44.ent (L N : Nat) (args : List AV) (vw : View) (site : Nat) : Ans := match coeD [(.st 2), (.sl .bool), i64] vw args with
  | some (d, u) => ⟨LB, f44 L N d.1 d.2.1 d.2.2.1, fun y => ((.tv (.sl .bool) y), u, [])⟩
  | none => Ans.no
noncomputable def E44 (L N : Nat) : Env := { P := Tryz.prog, ty := tyOf, Φ := (Φ43 L N), inl := inlT, live := lives, liveX := livesX, L := L, dp := none, prom := promT, heal := healT, ren := renT }
noncomputable def f44.c0 : Code := loopAt 0 (codeOf Tryz.f44)
noncomputable def f44.c1 : Code := loopAt 2 f44.c0
theorem f44.s1_eq {R : Type} (L N : Nat) (κ : Ex → T → H → Option R) (rec : T → H → Option R) (s7 : LB) (s8 : Int) (s9 : Int) (s10 : Int) (s11 : LLM) (s12 : LB) :
    evRd (E44 L N) (evCallI (E44 L N) 0 1000) 1000 44 60 2 f44.c1 κ rec (f44.T1 s7 s8 s9 s10 s11 s12) (f44.H1 s7 s8 s9 s10 s11 s12)
    = f44.s1 L N (fun z13 z14 z15 z16 z17 => κ (.exit 2) (f44.T1_e2 z13 z14 z15 z16 z17) (f44.H1_e2 z13 z14 z15 z16 z17)) (fun s7 s8 s9 s10 s11 s12 => rec (f44.T1 s7 s8 s9 s10 s11 s12) (f44.H1 s7 s8 s9 s10 s11 s12)) s7 s8 s9 s10 s11 s12 := by kernel_rfl
theorem f44.l1_eq {R : Type} (L N : Nat) (κ : Ex → T → H → Option R) : ∀ (n : Nat) (s7 : LB) (s8 : Int) (s9 : Int) (s10 : Int) (s11 : LLM) (s12 : LB),
    evLp (E44 L N) (evCallI (E44 L N) 0 1000) 1000 44 60 2 f44.c1 κ n (f44.T1 s7 s8 s9 s10 s11 s12) (f44.H1 s7 s8 s9 s10 s11 s12)
    = f44.l1 L N (fun z13 z14 z15 z16 z17 => κ (.exit 2) (f44.T1_e2 z13 z14 z15 z16 z17) (f44.H1_e2 z13 z14 z15 z16 z17)) n s7 s8 s9 s10 s11 s12 := by
  intro n
  induction n with
  | zero => intros; rfl
  | succ n ih =>
    intro s7 s8 s9 s10 s11 s12
    rw [evLp_succ, f44.s1_eq]
    simp only [ih]
    rfl
theorem f44.p1_e2_eq {R : Type} (L N : Nat) (κ : Ex → T → H → Option R) (rec : T → H → Option R) (z13 : LB) (z14 : Int) (z15 : Int) (z16 : LLM) (z17 : LB) :
    (contAt (E44 L N) (evCallI (E44 L N) 0 1000) 1000 44 60 2 f44.c0 (rdK (E44 L N) 1000 44 60 0 κ rec)) (.exit 2) (f44.T1_e2 z13 z14 z15 z16 z17) (f44.H1_e2 z13 z14 z15 z16 z17)
    = f44.p1_e2 L N (fun z5 z6 => κ (.exit 0) (f44.T0_e0 z5 z6) (f44.H0_e0 z5 z6)) (fun s0 s1 s2 s3 s4 => rec (f44.T0 s0 s1 s2 s3 s4) (f44.H0 s0 s1 s2 s3 s4)) z13 z14 z15 z16 z17 := by kernel_rfl
theorem f44.s0_eq {R : Type} (L N : Nat) (κ : Ex → T → H → Option R) (rec : T → H → Option R) (s0 : LB) (s1 : Int) (s2 : Int) (s3 : LLM) (s4 : LB) :
    evRd (E44 L N) (evCallI (E44 L N) 0 1000) 1000 44 60 0 f44.c0 κ rec (f44.T0 s0 s1 s2 s3 s4) (f44.H0 s0 s1 s2 s3 s4)
    = f44.s0 L N (fun z5 z6 => κ (.exit 0) (f44.T0_e0 z5 z6) (f44.H0_e0 z5 z6)) (fun s0 s1 s2 s3 s4 => rec (f44.T0 s0 s1 s2 s3 s4) (f44.H0 s0 s1 s2 s3 s4)) s0 s1 s2 s3 s4 := by
  refine Eq.trans (b := f44.s0' L N (fun z5 z6 => κ (.exit 0) (f44.T0_e0 z5 z6) (f44.H0_e0 z5 z6)) (fun s0 s1 s2 s3 s4 => rec (f44.T0 s0 s1 s2 s3 s4) (f44.H0 s0 s1 s2 s3 s4)) (fun s7 s8 s9 s10 s11 s12 => evLp (E44 L N) (evCallI (E44 L N) 0 1000) 1000 44 60 2 f44.c1 (contAt (E44 L N) (evCallI (E44 L N) 0 1000) 1000 44 60 2 f44.c0 (rdK (E44 L N) 1000 44 60 0 κ rec)) L (f44.T1 s7 s8 s9 s10 s11 s12) (f44.H1 s7 s8 s9 s10 s11 s12)) s0 s1 s2 s3 s4) (by kernel_rfl) ?_
  unfold f44.s0
  simp only [f44.l1_eq, f44.p1_e2_eq]
theorem f44.l0_eq {R : Type} (L N : Nat) (κ : Ex → T → H → Option R) : ∀ (n : Nat) (s0 : LB) (s1 : Int) (s2 : Int) (s3 : LLM) (s4 : LB),
    evLp (E44 L N) (evCallI (E44 L N) 0 1000) 1000 44 60 0 f44.c0 κ n (f44.T0 s0 s1 s2 s3 s4) (f44.H0 s0 s1 s2 s3 s4)
    = f44.l0 L N (fun z5 z6 => κ (.exit 0) (f44.T0_e0 z5 z6) (f44.H0_e0 z5 z6)) n s0 s1 s2 s3 s4 := by
  intro n
  induction n with
  | zero => intros; rfl
  | succ n ih =>
    intro s0 s1 s2 s3 s4
    rw [evLp_succ, f44.s0_eq]
    simp only [ih]
    rfl
theorem f44.p0_e0_eq {R : Type} (L N : Nat) (κ : AV → Option R) (z5 : LLM) (z6 : LB) :
    (contAt (E44 L N) (evCallI (E44 L N) 0 1000) 1000 44 60 0 (codeOf Tryz.f44) (finK (E44 L N) 1000 Tryz.f44 (finC (.one (.sl .bool)) κ))) (.exit 0) (f44.T0_e0 z5 z6) (f44.H0_e0 z5 z6)
    = f44.p0_e0 L N (fun a0 => κ (.tv (.sl .bool) a0)) z5 z6 := by kernel_rfl
theorem f44.b_eq {R : Type} (L N : Nat) (κ : AV → Option R) (x0 : Graph) (x1 : LB) (x2 : Int) :
    evBody (E44 L N) (evCallI (E44 L N) 0 1000) 1000 44 Tryz.f44 [(.tv (.st 2) x0), (.tv (.sl .bool) x1), (.tv i64 x2)] [] [] (finC (.one (.sl .bool)) κ)
    = f44.b L N (fun a0 => κ (.tv (.sl .bool) a0)) x0 x1 x2 := by
  refine Eq.trans (b := f44.b' L N (fun a0 => κ (.tv (.sl .bool) a0)) (fun s0 s1 s2 s3 s4 => evLp (E44 L N) (evCallI (E44 L N) 0 1000) 1000 44 60 0 f44.c0 (contAt (E44 L N) (evCallI (E44 L N) 0 1000) 1000 44 60 0 (codeOf Tryz.f44) (finK (E44 L N) 1000 Tryz.f44 (finC (.one (.sl .bool)) κ))) L (f44.T0 s0 s1 s2 s3 s4) (f44.H0 s0 s1 s2 s3 s4)) x0 x1 x2) (by kernel_rfl) ?_
  unfold f44.b
  simp only [f44.l0_eq, f44.p0_e0_eq]
theorem f44.ok (L N : Nat) (hΦ : TellsOk Tryz.prog ((Φ43 L N))) : EntOk Tryz.prog 44 (f44.ent L N) := by
  intro args vw site h
  unfold f44.ent
  split
  · rename_i d u ha
    intro y hy hs
    refine call_data (dep := 1000) (E := (E44 L N)) (rs := (.one (.sl .bool))) (κ := unR (.one (.sl .bool))) (sound_of hΦ) okP (callI_sound (sound_of hΦ) okP 0 1000) (f := Tryz.f44) rfl hs ha ?_ (fun _ h => unR_some h) site
    exact (f44.b_eq L N (unR (.one (.sl .bool))) d.1 d.2.1 d.2.2.1).trans (Eq.trans (b := f44.b L N some d.1 d.2.1 d.2.2.1) (by kernel_rfl) hy)
  · intro y hy
    cases hy
def Φ44 (L N : Nat) : Tells := (addT (Φ43 L N) 44 (f44.ent L N))
theorem Φ44_ok (L N : Nat) : TellsOk Tryz.prog (Φ44 L N) := addT_ok (Φ43_ok L N) (f44.ok L N (Φ43_ok L N))
def f20.s0' {R : Type} (L N : Nat) (k0_e0 : LB → Option R) (rec0 : LI → LB → Int → LLM → Option R) (s1 : LI) (s2 : LB) (s3 : Int) (s4 : LLM) : Option R :=
  bif (decide (s3 < (s1.length : Int))) then
    bif (decide (0 ≤ s3) && decide (s3 < (s1.length : Int))) then
      (f44 L N (Graph.mk s4) s2 (listAt s1 (0 : Int) s3.toNat)).bind fun y6 =>
      rec0 s1 y6 (wi (s3 + (1 : Int))) s4
    else none
  else k0_e0 s2
def f20.s0 {R : Type} (L N : Nat) (k0_e0 : LB → Option R) (rec0 : LI → LB → Int → LLM → Option R) (s1 : LI) (s2 : LB) (s3 : Int) (s4 : LLM) : Option R :=
  f20.s0' L N k0_e0 rec0 s1 s2 s3 s4
def f20.l0 {R : Type} (L N : Nat) (k0_e0 : LB → Option R) : Nat → LI → LB → Int → LLM → Option R
  | 0, _, _, _, _ => none
  | n + 1, s1, s2, s3, s4 => f20.s0 L N k0_e0 (f20.l0 L N k0_e0 n) s1 s2 s3 s4
def f20.T0 (s1 : LI) (s2 : LB) (s3 : Int) (s4 : LLM) : T := mkT 23 [(1, (.tv (.sl i64) s1)), (2, (.ptr 1002 0)), (5, (.tv (.sl .bool) s2)), (6, (.tv i64 s3))]
def f20.H0 (s1 : LI) (s2 : LB) (s3 : Int) (s4 : LLM) : H := [(1002, (.box [(.tv (.sl (.sl (.st 0))) s4)]))]
def f20.T0_e0 (z5 : LB) : T := mkT 23 [(5, (.tv (.sl .bool) z5))]
def f20.H0_e0 (z5 : LB) : H := []
def f20.p0_e0' {R : Type} (L N : Nat) (k : LB → Option R) (z5 : LB) : Option R :=
  k z5
def f20.p0_e0 {R : Type} (L N : Nat) (k : LB → Option R) (z5 : LB) : Option R :=
  f20.p0_e0' L N k z5
def f20.b' {R : Type} (L N : Nat) (k : LB → Option R) (w0 : LI → LB → Int → LLM → Option R) (x0 : Graph) (x1 : LI) : Option R :=
  (f43 L N (Graph.mk x0.moves)).bind fun y0 =>
  w0 x1 y0 (0 : Int) x0.moves
def f20.b {R : Type} (L N : Nat) (k : LB → Option R) (x0 : Graph) (x1 : LI) : Option R :=
  f20.b' L N k (fun s1 s2 s3 s4 => f20.l0 L N (fun z5 => f20.p0_e0 L N k z5) L s1 s2 s3 s4) x0 x1
def f20 (L N : Nat) (x0 : Graph) (x1 : LI) : Option (LB) := f20.b L N some x0 x1
def f20.ent (L N : Nat) (args : List AV) (vw : View) (site : Nat) : Ans := match coeD [(.st 2), (.sl i64)] vw args with
  | some (d, u) => ⟨LB, f20 L N d.1 d.2.1, fun y => ((.tv (.sl .bool) y), u, [])⟩
  | none => Ans.no
noncomputable def E20 (L N : Nat) : Env := { P := Tryz.prog, ty := tyOf, Φ := (Φ44 L N), inl := inlT, live := lives, liveX := livesX, L := L, dp := none, prom := promT, heal := healT, ren := renT }
noncomputable def f20.c0 : Code := loopAt 0 (codeOf Tryz.f20)
theorem f20.s0_eq {R : Type} (L N : Nat) (κ : Ex → T → H → Option R) (rec : T → H → Option R) (s1 : LI) (s2 : LB) (s3 : Int) (s4 : LLM) :
    evRd (E20 L N) (evCallI (E20 L N) 0 1000) 1000 20 23 0 f20.c0 κ rec (f20.T0 s1 s2 s3 s4) (f20.H0 s1 s2 s3 s4)
    = f20.s0 L N (fun z5 => κ (.exit 0) (f20.T0_e0 z5) (f20.H0_e0 z5)) (fun s1 s2 s3 s4 => rec (f20.T0 s1 s2 s3 s4) (f20.H0 s1 s2 s3 s4)) s1 s2 s3 s4 := by kernel_rfl
theorem f20.l0_eq {R : Type} (L N : Nat) (κ : Ex → T → H → Option R) : ∀ (n : Nat) (s1 : LI) (s2 : LB) (s3 : Int) (s4 : LLM),
    evLp (E20 L N) (evCallI (E20 L N) 0 1000) 1000 20 23 0 f20.c0 κ n (f20.T0 s1 s2 s3 s4) (f20.H0 s1 s2 s3 s4)
    = f20.l0 L N (fun z5 => κ (.exit 0) (f20.T0_e0 z5) (f20.H0_e0 z5)) n s1 s2 s3 s4 := by
  intro n
  induction n with
  | zero => intros; rfl
  | succ n ih =>
    intro s1 s2 s3 s4
    rw [evLp_succ, f20.s0_eq]
    simp only [ih]
    rfl
theorem f20.p0_e0_eq {R : Type} (L N : Nat) (κ : AV → Option R) (z5 : LB) :
    (contAt (E20 L N) (evCallI (E20 L N) 0 1000) 1000 20 23 0 (codeOf Tryz.f20) (finK (E20 L N) 1000 Tryz.f20 (finC (.one (.sl .bool)) κ))) (.exit 0) (f20.T0_e0 z5) (f20.H0_e0 z5)
    = f20.p0_e0 L N (fun a0 => κ (.tv (.sl .bool) a0)) z5 := by kernel_rfl
theorem f20.b_eq {R : Type} (L N : Nat) (κ : AV → Option R) (x0 : Graph) (x1 : LI) :
    evBody (E20 L N) (evCallI (E20 L N) 0 1000) 1000 20 Tryz.f20 [(.tv (.st 2) x0), (.tv (.sl i64) x1)] [] [] (finC (.one (.sl .bool)) κ)
    = f20.b L N (fun a0 => κ (.tv (.sl .bool) a0)) x0 x1 := by
  refine Eq.trans (b := f20.b' L N (fun a0 => κ (.tv (.sl .bool) a0)) (fun s1 s2 s3 s4 => evLp (E20 L N) (evCallI (E20 L N) 0 1000) 1000 20 23 0 f20.c0 (contAt (E20 L N) (evCallI (E20 L N) 0 1000) 1000 20 23 0 (codeOf Tryz.f20) (finK (E20 L N) 1000 Tryz.f20 (finC (.one (.sl .bool)) κ))) L (f20.T0 s1 s2 s3 s4) (f20.H0 s1 s2 s3 s4)) x0 x1) (by kernel_rfl) ?_
  unfold f20.b
  simp only [f20.l0_eq, f20.p0_e0_eq]
theorem f20.ok (L N : Nat) (hΦ : TellsOk Tryz.prog ((Φ44 L N))) : EntOk Tryz.prog 20 (f20.ent L N) := by
  intro args vw site h
  unfold f20.ent
  split
  · rename_i d u ha
    intro y hy hs
    refine call_data (dep := 1000) (E := (E20 L N)) (rs := (.one (.sl .bool))) (κ := unR (.one (.sl .bool))) (sound_of hΦ) okP (callI_sound (sound_of hΦ) okP 0 1000) (f := Tryz.f20) rfl hs ha ?_ (fun _ h => unR_some h) site
    exact (f20.b_eq L N (unR (.one (.sl .bool))) d.1 d.2.1).trans (Eq.trans (b := f20.b L N some d.1 d.2.1) (by kernel_rfl) hy)
  · intro y hy
    cases hy
def Φ20 (L N : Nat) : Tells := (addT (Φ44 L N) 20 (f20.ent L N))
theorem Φ20_ok (L N : Nat) : TellsOk Tryz.prog (Φ20 L N) := addT_ok (Φ44_ok L N) (f20.ok L N (Φ44_ok L N))
def f7.b' {R : Type} (L N : Nat) (k : Bool → Option R) (x0 : Graph) (x1 : LI) : Option R :=
  (f17 L N (Graph.mk x0.moves)).bind fun y0 =>
  bif y0 then
    (f18 L N x1).bind fun y1 =>
    bif y1 then
      (f20 L N (Graph.mk x0.moves) x1).bind fun y2 =>
      (f19 L N y2).bind fun y3 =>
      k y3
    else k false
  else k false
def f7.b {R : Type} (L N : Nat) (k : Bool → Option R) (x0 : Graph) (x1 : LI) : Option R :=
  f7.b' L N k x0 x1
def f7 (L N : Nat) (x0 : Graph) (x1 : LI) : Option (Bool) := f7.b L N some x0 x1
def f7.ent (L N : Nat) (args : List AV) (vw : View) (site : Nat) : Ans := match roD [(.st 2), (.sl i64)] vw args with
  | some d => ⟨Bool, f7 L N d.1 d.2.1, fun y => ((.tv .bool y), [], [])⟩
  | none => Ans.no
noncomputable def E7 (L N : Nat) : Env := { P := Tryz.prog, ty := tyOf, Φ := (Φ20 L N), inl := inlT, live := lives, liveX := livesX, L := L, dp := none, prom := promT, heal := healT, ren := renT }
theorem f7.b_eq {R : Type} (L N : Nat) (κ : AV → Option R) (x0 : Graph) (x1 : LI) :
    evBody (E7 L N) (evCallI (E7 L N) 0 1000) 1000 7 Tryz.f7 [(.tv (.st 2) x0), (.tv (.sl i64) x1)] [] [] (finC (.one .bool) κ)
    = f7.b L N (fun a0 => κ (.tv .bool a0)) x0 x1 := by kernel_rfl
theorem f7.ok (L N : Nat) (hΦ : TellsOk Tryz.prog ((Φ20 L N))) : EntOk Tryz.prog 7 (f7.ent L N) := by
  intro args vw site h
  unfold f7.ent
  split
  · rename_i d ha
    intro y hy hs
    refine call_ro (dep := 1000) (E := (E7 L N)) (rs := (.one .bool)) (κ := unR (.one .bool)) (sound_of hΦ) okP (callI_sound (sound_of hΦ) okP 0 1000) (f := Tryz.f7) rfl hs ha ?_ (fun _ h => unR_some h) rfl site
    exact (f7.b_eq L N (unR (.one .bool)) d.1 d.2.1).trans (Eq.trans (b := f7.b L N some d.1 d.2.1) (by kernel_rfl) hy)
  · intro y hy
    cases hy
def Φ7 (L N : Nat) : Tells := (addT (Φ20 L N) 7 (f7.ent L N))
theorem Φ7_ok (L N : Nat) : TellsOk Tryz.prog (Φ7 L N) := addT_ok (Φ20_ok L N) (f7.ok L N (Φ20_ok L N))
def f47.s0' {R : Type} (L N : Nat) (k0_e0 : LLI → Option R) (rec0 : Int → Int → LLM → LLI → Option R) (s0 : Int) (s1 : Int) (s2 : LLM) (s3 : LLI) : Option R :=
  bif (decide (s1 < s0)) then
    (f55 L N (Graph.mk s2) ([s1] : LI)).bind fun y5 =>
    bif (decide (s3.length + ([y5] : LLI).length ≤ lim)) then
      rec0 s0 (wi (s1 + (1 : Int))) s2 (s3 ++ ([y5] : LLI))
    else none
  else k0_e0 s3
def f47.s0 {R : Type} (L N : Nat) (k0_e0 : LLI → Option R) (rec0 : Int → Int → LLM → LLI → Option R) (s0 : Int) (s1 : Int) (s2 : LLM) (s3 : LLI) : Option R :=
  f47.s0' L N k0_e0 rec0 s0 s1 s2 s3
def f47.l0 {R : Type} (L N : Nat) (k0_e0 : LLI → Option R) : Nat → Int → Int → LLM → LLI → Option R
  | 0, _, _, _, _ => none
  | n + 1, s0, s1, s2, s3 => f47.s0 L N k0_e0 (f47.l0 L N k0_e0 n) s0 s1 s2 s3
def f47.T0 (s0 : Int) (s1 : Int) (s2 : LLM) (s3 : LLI) : T := mkT 21 [(1, (.ptr 1001 0)), (3, (.row 1005)), (8, (.tv i64 s0)), (9, (.tv i64 s1))]
def f47.H0 (s0 : Int) (s1 : Int) (s2 : LLM) (s3 : LLI) : H := [(1001, (.box [(.tv (.sl (.sl (.st 0))) s2)])), (1005, (.row 26 (.sl i64) s3))]
def f47.T0_e0 (z4 : LLI) : T := mkT 21 [(3, (.row 1005))]
def f47.H0_e0 (z4 : LLI) : H := [(1005, (.row 26 (.sl i64) z4))]
def f47.p0_e0' {R : Type} (L N : Nat) (k : LLI → Option R) (z4 : LLI) : Option R :=
  k z4
def f47.p0_e0 {R : Type} (L N : Nat) (k : LLI → Option R) (z4 : LLI) : Option R :=
  f47.p0_e0' L N k z4
def f47.b' {R : Type} (L N : Nat) (k : LLI → Option R) (w0 : Int → Int → LLM → LLI → Option R) (x0 : Graph) : Option R :=
  w0 (x0.moves.length : Int) (0 : Int) x0.moves ([] : LLI)
def f47.b {R : Type} (L N : Nat) (k : LLI → Option R) (x0 : Graph) : Option R :=
  f47.b' L N k (fun s0 s1 s2 s3 => f47.l0 L N (fun z4 => f47.p0_e0 L N k z4) L s0 s1 s2 s3) x0
def f47 (L N : Nat) (x0 : Graph) : Option (LLI) := f47.b L N some x0
def f47.ent (L N : Nat) (args : List AV) (vw : View) (site : Nat) : Ans := match coeD [(.st 2)] vw args with
  | some (d, u) => ⟨LLI, f47 L N d.1, fun y => ((.tv (.sl (.sl i64)) y), u, [])⟩
  | none => Ans.no
noncomputable def E47 (L N : Nat) : Env := { P := Tryz.prog, ty := tyOf, Φ := (Φ7 L N), inl := inlT, live := lives, liveX := livesX, L := L, dp := none, prom := promT, heal := healT, ren := renT }
noncomputable def f47.c0 : Code := loopAt 0 (codeOf Tryz.f47)
theorem f47.s0_eq {R : Type} (L N : Nat) (κ : Ex → T → H → Option R) (rec : T → H → Option R) (s0 : Int) (s1 : Int) (s2 : LLM) (s3 : LLI) :
    evRd (E47 L N) (evCallI (E47 L N) 0 1000) 1000 47 21 0 f47.c0 κ rec (f47.T0 s0 s1 s2 s3) (f47.H0 s0 s1 s2 s3)
    = f47.s0 L N (fun z4 => κ (.exit 0) (f47.T0_e0 z4) (f47.H0_e0 z4)) (fun s0 s1 s2 s3 => rec (f47.T0 s0 s1 s2 s3) (f47.H0 s0 s1 s2 s3)) s0 s1 s2 s3 := by kernel_rfl
theorem f47.l0_eq {R : Type} (L N : Nat) (κ : Ex → T → H → Option R) : ∀ (n : Nat) (s0 : Int) (s1 : Int) (s2 : LLM) (s3 : LLI),
    evLp (E47 L N) (evCallI (E47 L N) 0 1000) 1000 47 21 0 f47.c0 κ n (f47.T0 s0 s1 s2 s3) (f47.H0 s0 s1 s2 s3)
    = f47.l0 L N (fun z4 => κ (.exit 0) (f47.T0_e0 z4) (f47.H0_e0 z4)) n s0 s1 s2 s3 := by
  intro n
  induction n with
  | zero => intros; rfl
  | succ n ih =>
    intro s0 s1 s2 s3
    rw [evLp_succ, f47.s0_eq]
    simp only [ih]
    rfl
theorem f47.p0_e0_eq {R : Type} (L N : Nat) (κ : AV → Option R) (z4 : LLI) :
    (contAt (E47 L N) (evCallI (E47 L N) 0 1000) 1000 47 21 0 (codeOf Tryz.f47) (finK (E47 L N) 1000 Tryz.f47 (finC (.one (.sl (.sl i64))) κ))) (.exit 0) (f47.T0_e0 z4) (f47.H0_e0 z4)
    = f47.p0_e0 L N (fun a0 => κ (.tv (.sl (.sl i64)) a0)) z4 := by kernel_rfl
theorem f47.b_eq {R : Type} (L N : Nat) (κ : AV → Option R) (x0 : Graph) :
    evBody (E47 L N) (evCallI (E47 L N) 0 1000) 1000 47 Tryz.f47 [(.tv (.st 2) x0)] [] [] (finC (.one (.sl (.sl i64))) κ)
    = f47.b L N (fun a0 => κ (.tv (.sl (.sl i64)) a0)) x0 := by
  refine Eq.trans (b := f47.b' L N (fun a0 => κ (.tv (.sl (.sl i64)) a0)) (fun s0 s1 s2 s3 => evLp (E47 L N) (evCallI (E47 L N) 0 1000) 1000 47 21 0 f47.c0 (contAt (E47 L N) (evCallI (E47 L N) 0 1000) 1000 47 21 0 (codeOf Tryz.f47) (finK (E47 L N) 1000 Tryz.f47 (finC (.one (.sl (.sl i64))) κ))) L (f47.T0 s0 s1 s2 s3) (f47.H0 s0 s1 s2 s3)) x0) (by kernel_rfl) ?_
  unfold f47.b
  simp only [f47.l0_eq, f47.p0_e0_eq]
theorem f47.ok (L N : Nat) (hΦ : TellsOk Tryz.prog ((Φ7 L N))) : EntOk Tryz.prog 47 (f47.ent L N) := by
  intro args vw site h
  unfold f47.ent
  split
  · rename_i d u ha
    intro y hy hs
    refine call_data (dep := 1000) (E := (E47 L N)) (rs := (.one (.sl (.sl i64)))) (κ := unR (.one (.sl (.sl i64)))) (sound_of hΦ) okP (callI_sound (sound_of hΦ) okP 0 1000) (f := Tryz.f47) rfl hs ha ?_ (fun _ h => unR_some h) site
    exact (f47.b_eq L N (unR (.one (.sl (.sl i64)))) d.1).trans (Eq.trans (b := f47.b L N some d.1) (by kernel_rfl) hy)
  · intro y hy
    cases hy
def Φ47 (L N : Nat) : Tells := (addT (Φ7 L N) 47 (f47.ent L N))
theorem Φ47_ok (L N : Nat) : TellsOk Tryz.prog (Φ47 L N) := addT_ok (Φ7_ok L N) (f47.ok L N (Φ7_ok L N))
def f22.s3' {R : Type} (L N : Nat) (k3_e6 : LLI → Int → Int → LI → Int → Int → LM → Int → Int → LLM → LM → LLM → LLM → Option R) (rec3 : LLI → Int → Int → LI → Int → Int → LM → Int → Int → LI → Int → Int → LLM → Int → Int → LM → LLM → LLM → Option R) (s49 : LLI) (s50 : Int) (s51 : Int) (s52 : LI) (s53 : Int) (s54 : Int) (s55 : LM) (s56 : Int) (s57 : Int) (s58 : LI) (s59 : Int) (s60 : Int) (s61 : LLM) (s62 : Int) (s63 : Int) (s64 : LM) (s65 : LLM) (s66 : LLM) : Option R :=
  bif (decide (s60 < s59)) then
    bif (decide (0 ≤ s60) && decide (s60 < (s58.length : Int))) then
      bif (decide (s64.length + ([(Move.mk s62 (listAt s58 (0 : Int) s60.toNat))] : LM).length ≤ lim)) then
        rec3 s49 s50 s51 s52 s53 s54 s55 s56 s57 s58 s59 (wi (s60 + (1 : Int))) s61 s62 s63 (s64 ++ ([(Move.mk s62 (listAt s58 (0 : Int) s60.toNat))] : LM)) s65 s66
      else none
    else none
  else k3_e6 s49 s50 s51 s52 s53 s54 s55 s56 s57 s61 s64 s65 s66
def f22.s3 {R : Type} (L N : Nat) (k3_e6 : LLI → Int → Int → LI → Int → Int → LM → Int → Int → LLM → LM → LLM → LLM → Option R) (rec3 : LLI → Int → Int → LI → Int → Int → LM → Int → Int → LI → Int → Int → LLM → Int → Int → LM → LLM → LLM → Option R) (s49 : LLI) (s50 : Int) (s51 : Int) (s52 : LI) (s53 : Int) (s54 : Int) (s55 : LM) (s56 : Int) (s57 : Int) (s58 : LI) (s59 : Int) (s60 : Int) (s61 : LLM) (s62 : Int) (s63 : Int) (s64 : LM) (s65 : LLM) (s66 : LLM) : Option R :=
  f22.s3' L N k3_e6 rec3 s49 s50 s51 s52 s53 s54 s55 s56 s57 s58 s59 s60 s61 s62 s63 s64 s65 s66
def f22.l3 {R : Type} (L N : Nat) (k3_e6 : LLI → Int → Int → LI → Int → Int → LM → Int → Int → LLM → LM → LLM → LLM → Option R) : Nat → LLI → Int → Int → LI → Int → Int → LM → Int → Int → LI → Int → Int → LLM → Int → Int → LM → LLM → LLM → Option R
  | 0, _, _, _, _, _, _, _, _, _, _, _, _, _, _, _, _, _, _ => none
  | n + 1, s49, s50, s51, s52, s53, s54, s55, s56, s57, s58, s59, s60, s61, s62, s63, s64, s65, s66 => f22.s3 L N k3_e6 (f22.l3 L N k3_e6 n) s49 s50 s51 s52 s53 s54 s55 s56 s57 s58 s59 s60 s61 s62 s63 s64 s65 s66
def f22.T3 (s49 : LLI) (s50 : Int) (s51 : Int) (s52 : LI) (s53 : Int) (s54 : Int) (s55 : LM) (s56 : Int) (s57 : Int) (s58 : LI) (s59 : Int) (s60 : Int) (s61 : LLM) (s62 : Int) (s63 : Int) (s64 : LM) (s65 : LLM) (s66 : LLM) : T := mkT 79 [(1, (.ptr 1001 0)), (2, (.ptr 1002 0)), (3, (.tv (.sl (.sl i64)) s49)), (4, (.ptr 1004 0)), (6, (.row 1022)), (10, (.ptr 1010 0)), (18, (.tv i64 s50)), (19, (.tv i64 s51)), (26, (.tv (.sl i64) s52)), (27, (.tv i64 s53)), (28, (.tv i64 s54)), (41, (.tv (.sl (.st 0)) s55)), (42, (.tv i64 s56)), (43, (.tv i64 s57)), (54, (.tv (.sl i64) s58)), (55, (.tv i64 s59)), (56, (.tv i64 s60))]
def f22.H3 (s49 : LLI) (s50 : Int) (s51 : Int) (s52 : LI) (s53 : Int) (s54 : Int) (s55 : LM) (s56 : Int) (s57 : Int) (s58 : LI) (s59 : Int) (s60 : Int) (s61 : LLM) (s62 : Int) (s63 : Int) (s64 : LM) (s65 : LLM) (s66 : LLM) : H := [(1001, (.box [(.tv (.sl (.sl (.st 0))) s61)])), (1002, (.box [(.row 1900)])), (1004, (.box [(.row 1901)])), (1010, (.box [(.tv i64 s62), (.tv i64 s63)])), (1022, (.row 50 (.st 0) s64)), (1900, (.deep 0 (.sl (.st 0)) s65 none)), (1901, (.deep 0 (.sl (.st 0)) s66 none))]
def f22.T3_e6 (z67 : LLI) (z68 : Int) (z69 : Int) (z70 : LI) (z71 : Int) (z72 : Int) (z73 : LM) (z74 : Int) (z75 : Int) (z76 : LLM) (z77 : LM) (z78 : LLM) (z79 : LLM) : T := mkT 79 [(1, (.ptr 1001 0)), (2, (.ptr 1002 0)), (3, (.tv (.sl (.sl i64)) z67)), (4, (.ptr 1004 0)), (6, (.row 1022)), (18, (.tv i64 z68)), (19, (.tv i64 z69)), (26, (.tv (.sl i64) z70)), (27, (.tv i64 z71)), (28, (.tv i64 z72)), (41, (.tv (.sl (.st 0)) z73)), (42, (.tv i64 z74)), (43, (.tv i64 z75))]
def f22.H3_e6 (z67 : LLI) (z68 : Int) (z69 : Int) (z70 : LI) (z71 : Int) (z72 : Int) (z73 : LM) (z74 : Int) (z75 : Int) (z76 : LLM) (z77 : LM) (z78 : LLM) (z79 : LLM) : H := [(1001, (.box [(.tv (.sl (.sl (.st 0))) z76)])), (1002, (.box [(.row 1900)])), (1004, (.box [(.row 1901)])), (1022, (.row 50 (.st 0) z77)), (1900, (.deep 0 (.sl (.st 0)) z78 none)), (1901, (.deep 0 (.sl (.st 0)) z79 none))]
def f22.p3_e6' {R : Type} (L N : Nat) (k2_e4 : LLI → Int → Int → LI → Int → Int → LLM → LM → LLM → LLM → Option R) (rec2 : LLI → Int → Int → LI → Int → Int → LM → Int → Int → LLM → LM → LLM → LLM → Option R) (z67 : LLI) (z68 : Int) (z69 : Int) (z70 : LI) (z71 : Int) (z72 : Int) (z73 : LM) (z74 : Int) (z75 : Int) (z76 : LLM) (z77 : LM) (z78 : LLM) (z79 : LLM) : Option R :=
  rec2 z67 z68 z69 z70 z71 z72 z73 z74 (wi (z75 + (1 : Int))) z76 z77 z78 z79
def f22.p3_e6 {R : Type} (L N : Nat) (k2_e4 : LLI → Int → Int → LI → Int → Int → LLM → LM → LLM → LLM → Option R) (rec2 : LLI → Int → Int → LI → Int → Int → LM → Int → Int → LLM → LM → LLM → LLM → Option R) (z67 : LLI) (z68 : Int) (z69 : Int) (z70 : LI) (z71 : Int) (z72 : Int) (z73 : LM) (z74 : Int) (z75 : Int) (z76 : LLM) (z77 : LM) (z78 : LLM) (z79 : LLM) : Option R :=
  f22.p3_e6' L N k2_e4 rec2 z67 z68 z69 z70 z71 z72 z73 z74 z75 z76 z77 z78 z79
def f22.s2' {R : Type} (L N : Nat) (k2_e4 : LLI → Int → Int → LI → Int → Int → LLM → LM → LLM → LLM → Option R) (rec2 : LLI → Int → Int → LI → Int → Int → LM → Int → Int → LLM → LM → LLM → LLM → Option R) (w3 : LLI → Int → Int → LI → Int → Int → LM → Int → Int → LI → Int → Int → LLM → Int → Int → LM → LLM → LLM → Option R) (s26 : LLI) (s27 : Int) (s28 : Int) (s29 : LI) (s30 : Int) (s31 : Int) (s32 : LM) (s33 : Int) (s34 : Int) (s35 : LLM) (s36 : LM) (s37 : LLM) (s38 : LLM) : Option R :=
  bif (decide (s34 < s33)) then
    bif (decide (0 ≤ s34) && decide (s34 < (s32.length : Int))) then
      bif ((listAt s32 (Ty.dflt (.st 0)) s34.toNat).act != (0 : Int)) then
        bif (decide (0 ≤ (listAt s32 (Ty.dflt (.st 0)) s34.toNat).to) && decide ((listAt s32 (Ty.dflt (.st 0)) s34.toNat).to < (s26.length : Int))) then
          w3 s26 s27 s28 s29 s30 s31 s32 s33 s34 (listAt s26 [] ((listAt s32 (Ty.dflt (.st 0)) s34.toNat).to).toNat) ((listAt s26 [] ((listAt s32 (Ty.dflt (.st 0)) s34.toNat).to).toNat).length : Int) (0 : Int) s35 ((listAt s32 (Ty.dflt (.st 0)) s34.toNat).act) ((listAt s32 (Ty.dflt (.st 0)) s34.toNat).to) s36 s37 s38
        else none
      else rec2 s26 s27 s28 s29 s30 s31 s32 s33 (wi (s34 + (1 : Int))) s35 s36 s37 s38
    else none
  else k2_e4 s26 s27 s28 s29 s30 s31 s35 s36 s37 s38
def f22.s2 {R : Type} (L N : Nat) (k2_e4 : LLI → Int → Int → LI → Int → Int → LLM → LM → LLM → LLM → Option R) (rec2 : LLI → Int → Int → LI → Int → Int → LM → Int → Int → LLM → LM → LLM → LLM → Option R) (s26 : LLI) (s27 : Int) (s28 : Int) (s29 : LI) (s30 : Int) (s31 : Int) (s32 : LM) (s33 : Int) (s34 : Int) (s35 : LLM) (s36 : LM) (s37 : LLM) (s38 : LLM) : Option R :=
  f22.s2' L N k2_e4 rec2 (fun s49 s50 s51 s52 s53 s54 s55 s56 s57 s58 s59 s60 s61 s62 s63 s64 s65 s66 => f22.l3 L N (fun z67 z68 z69 z70 z71 z72 z73 z74 z75 z76 z77 z78 z79 => f22.p3_e6 L N k2_e4 rec2 z67 z68 z69 z70 z71 z72 z73 z74 z75 z76 z77 z78 z79) L s49 s50 s51 s52 s53 s54 s55 s56 s57 s58 s59 s60 s61 s62 s63 s64 s65 s66) s26 s27 s28 s29 s30 s31 s32 s33 s34 s35 s36 s37 s38
def f22.l2 {R : Type} (L N : Nat) (k2_e4 : LLI → Int → Int → LI → Int → Int → LLM → LM → LLM → LLM → Option R) : Nat → LLI → Int → Int → LI → Int → Int → LM → Int → Int → LLM → LM → LLM → LLM → Option R
  | 0, _, _, _, _, _, _, _, _, _, _, _, _, _ => none
  | n + 1, s26, s27, s28, s29, s30, s31, s32, s33, s34, s35, s36, s37, s38 => f22.s2 L N k2_e4 (f22.l2 L N k2_e4 n) s26 s27 s28 s29 s30 s31 s32 s33 s34 s35 s36 s37 s38
def f22.T2 (s26 : LLI) (s27 : Int) (s28 : Int) (s29 : LI) (s30 : Int) (s31 : Int) (s32 : LM) (s33 : Int) (s34 : Int) (s35 : LLM) (s36 : LM) (s37 : LLM) (s38 : LLM) : T := mkT 79 [(1, (.ptr 1001 0)), (2, (.ptr 1002 0)), (3, (.tv (.sl (.sl i64)) s26)), (4, (.ptr 1004 0)), (6, (.row 1022)), (18, (.tv i64 s27)), (19, (.tv i64 s28)), (26, (.tv (.sl i64) s29)), (27, (.tv i64 s30)), (28, (.tv i64 s31)), (41, (.tv (.sl (.st 0)) s32)), (42, (.tv i64 s33)), (43, (.tv i64 s34))]
def f22.H2 (s26 : LLI) (s27 : Int) (s28 : Int) (s29 : LI) (s30 : Int) (s31 : Int) (s32 : LM) (s33 : Int) (s34 : Int) (s35 : LLM) (s36 : LM) (s37 : LLM) (s38 : LLM) : H := [(1001, (.box [(.tv (.sl (.sl (.st 0))) s35)])), (1002, (.box [(.row 1900)])), (1004, (.box [(.row 1901)])), (1022, (.row 50 (.st 0) s36)), (1900, (.deep 0 (.sl (.st 0)) s37 none)), (1901, (.deep 0 (.sl (.st 0)) s38 none))]
def f22.T2_e4 (z39 : LLI) (z40 : Int) (z41 : Int) (z42 : LI) (z43 : Int) (z44 : Int) (z45 : LLM) (z46 : LM) (z47 : LLM) (z48 : LLM) : T := mkT 79 [(1, (.ptr 1001 0)), (2, (.ptr 1002 0)), (3, (.tv (.sl (.sl i64)) z39)), (4, (.ptr 1004 0)), (6, (.row 1022)), (18, (.tv i64 z40)), (19, (.tv i64 z41)), (26, (.tv (.sl i64) z42)), (27, (.tv i64 z43)), (28, (.tv i64 z44))]
def f22.H2_e4 (z39 : LLI) (z40 : Int) (z41 : Int) (z42 : LI) (z43 : Int) (z44 : Int) (z45 : LLM) (z46 : LM) (z47 : LLM) (z48 : LLM) : H := [(1001, (.box [(.tv (.sl (.sl (.st 0))) z45)])), (1002, (.box [(.row 1900)])), (1004, (.box [(.row 1901)])), (1022, (.row 50 (.st 0) z46)), (1900, (.deep 0 (.sl (.st 0)) z47 none)), (1901, (.deep 0 (.sl (.st 0)) z48 none))]
def f22.p2_e4' {R : Type} (L N : Nat) (k1_e2 : LLI → Int → Int → LLM → LM → LLM → LLM → Option R) (rec1 : LLI → Int → Int → LI → Int → Int → LLM → LM → LLM → LLM → Option R) (z39 : LLI) (z40 : Int) (z41 : Int) (z42 : LI) (z43 : Int) (z44 : Int) (z45 : LLM) (z46 : LM) (z47 : LLM) (z48 : LLM) : Option R :=
  rec1 z39 z40 z41 z42 z43 (wi (z44 + (1 : Int))) z45 z46 z47 z48
def f22.p2_e4 {R : Type} (L N : Nat) (k1_e2 : LLI → Int → Int → LLM → LM → LLM → LLM → Option R) (rec1 : LLI → Int → Int → LI → Int → Int → LLM → LM → LLM → LLM → Option R) (z39 : LLI) (z40 : Int) (z41 : Int) (z42 : LI) (z43 : Int) (z44 : Int) (z45 : LLM) (z46 : LM) (z47 : LLM) (z48 : LLM) : Option R :=
  f22.p2_e4' L N k1_e2 rec1 z39 z40 z41 z42 z43 z44 z45 z46 z47 z48
def f22.s1' {R : Type} (L N : Nat) (k1_e2 : LLI → Int → Int → LLM → LM → LLM → LLM → Option R) (rec1 : LLI → Int → Int → LI → Int → Int → LLM → LM → LLM → LLM → Option R) (w2 : LLI → Int → Int → LI → Int → Int → LM → Int → Int → LLM → LM → LLM → LLM → Option R) (s9 : LLI) (s10 : Int) (s11 : Int) (s12 : LI) (s13 : Int) (s14 : Int) (s15 : LLM) (s16 : LM) (s17 : LLM) (s18 : LLM) : Option R :=
  bif (decide (s14 < s13)) then
    bif (decide (0 ≤ s14) && decide (s14 < (s12.length : Int))) then
      bif (decide (s16.length + ([(Move.mk (0 : Int) (listAt s12 (0 : Int) s14.toNat))] : LM).length ≤ lim)) then
        bif (decide (0 ≤ (listAt s12 (0 : Int) s14.toNat)) && decide ((listAt s12 (0 : Int) s14.toNat) < (s15.length : Int))) then
          w2 s9 s10 s11 s12 s13 s14 (listAt s15 [] (listAt s12 (0 : Int) s14.toNat).toNat) ((listAt s15 [] (listAt s12 (0 : Int) s14.toNat).toNat).length : Int) (0 : Int) s15 (s16 ++ ([(Move.mk (0 : Int) (listAt s12 (0 : Int) s14.toNat))] : LM)) s17 s18
        else none
      else none
    else none
  else k1_e2 s9 s10 s11 s15 s16 s17 s18
def f22.s1 {R : Type} (L N : Nat) (k1_e2 : LLI → Int → Int → LLM → LM → LLM → LLM → Option R) (rec1 : LLI → Int → Int → LI → Int → Int → LLM → LM → LLM → LLM → Option R) (s9 : LLI) (s10 : Int) (s11 : Int) (s12 : LI) (s13 : Int) (s14 : Int) (s15 : LLM) (s16 : LM) (s17 : LLM) (s18 : LLM) : Option R :=
  f22.s1' L N k1_e2 rec1 (fun s26 s27 s28 s29 s30 s31 s32 s33 s34 s35 s36 s37 s38 => f22.l2 L N (fun z39 z40 z41 z42 z43 z44 z45 z46 z47 z48 => f22.p2_e4 L N k1_e2 rec1 z39 z40 z41 z42 z43 z44 z45 z46 z47 z48) L s26 s27 s28 s29 s30 s31 s32 s33 s34 s35 s36 s37 s38) s9 s10 s11 s12 s13 s14 s15 s16 s17 s18
def f22.l1 {R : Type} (L N : Nat) (k1_e2 : LLI → Int → Int → LLM → LM → LLM → LLM → Option R) : Nat → LLI → Int → Int → LI → Int → Int → LLM → LM → LLM → LLM → Option R
  | 0, _, _, _, _, _, _, _, _, _, _ => none
  | n + 1, s9, s10, s11, s12, s13, s14, s15, s16, s17, s18 => f22.s1 L N k1_e2 (f22.l1 L N k1_e2 n) s9 s10 s11 s12 s13 s14 s15 s16 s17 s18
def f22.T1 (s9 : LLI) (s10 : Int) (s11 : Int) (s12 : LI) (s13 : Int) (s14 : Int) (s15 : LLM) (s16 : LM) (s17 : LLM) (s18 : LLM) : T := mkT 79 [(1, (.ptr 1001 0)), (2, (.ptr 1002 0)), (3, (.tv (.sl (.sl i64)) s9)), (4, (.ptr 1004 0)), (6, (.row 1022)), (18, (.tv i64 s10)), (19, (.tv i64 s11)), (26, (.tv (.sl i64) s12)), (27, (.tv i64 s13)), (28, (.tv i64 s14))]
def f22.H1 (s9 : LLI) (s10 : Int) (s11 : Int) (s12 : LI) (s13 : Int) (s14 : Int) (s15 : LLM) (s16 : LM) (s17 : LLM) (s18 : LLM) : H := [(1001, (.box [(.tv (.sl (.sl (.st 0))) s15)])), (1002, (.box [(.row 1900)])), (1004, (.box [(.row 1901)])), (1022, (.row 50 (.st 0) s16)), (1900, (.deep 0 (.sl (.st 0)) s17 none)), (1901, (.deep 0 (.sl (.st 0)) s18 none))]
def f22.T1_e2 (z19 : LLI) (z20 : Int) (z21 : Int) (z22 : LLM) (z23 : LM) (z24 : LLM) (z25 : LLM) : T := mkT 79 [(1, (.ptr 1001 0)), (2, (.ptr 1002 0)), (3, (.tv (.sl (.sl i64)) z19)), (4, (.ptr 1004 0)), (6, (.row 1022)), (18, (.tv i64 z20)), (19, (.tv i64 z21))]
def f22.H1_e2 (z19 : LLI) (z20 : Int) (z21 : Int) (z22 : LLM) (z23 : LM) (z24 : LLM) (z25 : LLM) : H := [(1001, (.box [(.tv (.sl (.sl (.st 0))) z22)])), (1002, (.box [(.row 1900)])), (1004, (.box [(.row 1901)])), (1022, (.row 50 (.st 0) z23)), (1900, (.deep 0 (.sl (.st 0)) z24 none)), (1901, (.deep 0 (.sl (.st 0)) z25 none))]
def f22.p1_e2' {R : Type} (L N : Nat) (k0_e0 : LLM → LLM → Option R) (rec0 : LLI → Int → Int → LLM → LLM → LLM → Option R) (z19 : LLI) (z20 : Int) (z21 : Int) (z22 : LLM) (z23 : LM) (z24 : LLM) (z25 : LLM) : Option R :=
  ((fsortM z23)).bind fun y93 =>
  bif (decide (z25.length + ([(tidyM z23)] : LLM).length ≤ lim)) then
    rec0 z19 z20 (wi (z21 + (1 : Int))) z22 z24 (z25 ++ ([(tidyM z23)] : LLM))
  else none
def f22.p1_e2 {R : Type} (L N : Nat) (k0_e0 : LLM → LLM → Option R) (rec0 : LLI → Int → Int → LLM → LLM → LLM → Option R) (z19 : LLI) (z20 : Int) (z21 : Int) (z22 : LLM) (z23 : LM) (z24 : LLM) (z25 : LLM) : Option R :=
  f22.p1_e2' L N k0_e0 rec0 z19 z20 z21 z22 z23 z24 z25
def f22.s0' {R : Type} (L N : Nat) (k0_e0 : LLM → LLM → Option R) (rec0 : LLI → Int → Int → LLM → LLM → LLM → Option R) (w1 : LLI → Int → Int → LI → Int → Int → LLM → LM → LLM → LLM → Option R) (s1 : LLI) (s2 : Int) (s3 : Int) (s4 : LLM) (s5 : LLM) (s6 : LLM) : Option R :=
  bif (decide (s3 < s2)) then
    bif (decide (0 ≤ s3) && decide (s3 < (s1.length : Int))) then
      w1 s1 s2 s3 (listAt s1 [] s3.toNat) ((listAt s1 [] s3.toNat).length : Int) (0 : Int) s4 ([] : LM) s5 s6
    else none
  else k0_e0 s5 s6
def f22.s0 {R : Type} (L N : Nat) (k0_e0 : LLM → LLM → Option R) (rec0 : LLI → Int → Int → LLM → LLM → LLM → Option R) (s1 : LLI) (s2 : Int) (s3 : Int) (s4 : LLM) (s5 : LLM) (s6 : LLM) : Option R :=
  f22.s0' L N k0_e0 rec0 (fun s9 s10 s11 s12 s13 s14 s15 s16 s17 s18 => f22.l1 L N (fun z19 z20 z21 z22 z23 z24 z25 => f22.p1_e2 L N k0_e0 rec0 z19 z20 z21 z22 z23 z24 z25) L s9 s10 s11 s12 s13 s14 s15 s16 s17 s18) s1 s2 s3 s4 s5 s6
def f22.l0 {R : Type} (L N : Nat) (k0_e0 : LLM → LLM → Option R) : Nat → LLI → Int → Int → LLM → LLM → LLM → Option R
  | 0, _, _, _, _, _, _ => none
  | n + 1, s1, s2, s3, s4, s5, s6 => f22.s0 L N k0_e0 (f22.l0 L N k0_e0 n) s1 s2 s3 s4 s5 s6
def f22.T0 (s1 : LLI) (s2 : Int) (s3 : Int) (s4 : LLM) (s5 : LLM) (s6 : LLM) : T := mkT 79 [(1, (.ptr 1001 0)), (2, (.ptr 1002 0)), (3, (.tv (.sl (.sl i64)) s1)), (4, (.ptr 1004 0)), (18, (.tv i64 s2)), (19, (.tv i64 s3))]
def f22.H0 (s1 : LLI) (s2 : Int) (s3 : Int) (s4 : LLM) (s5 : LLM) (s6 : LLM) : H := [(1001, (.box [(.tv (.sl (.sl (.st 0))) s4)])), (1002, (.box [(.row 1900)])), (1004, (.box [(.row 1901)])), (1900, (.deep 0 (.sl (.st 0)) s5 none)), (1901, (.deep 0 (.sl (.st 0)) s6 none))]
def f22.T0_e0 (z7 : LLM) (z8 : LLM) : T := mkT 79 [(2, (.ptr 1002 0)), (4, (.ptr 1004 0))]
def f22.H0_e0 (z7 : LLM) (z8 : LLM) : H := [(1002, (.box [(.row 1900)])), (1004, (.box [(.row 1901)])), (1900, (.deep 0 (.sl (.st 0)) z7 none)), (1901, (.deep 0 (.sl (.st 0)) z8 none))]
def f22.p0_e0' {R : Type} (L N : Nat) (k : LLM → Option R) (z7 : LLM) (z8 : LLM) : Option R :=
  k z8
def f22.p0_e0 {R : Type} (L N : Nat) (k : LLM → Option R) (z7 : LLM) (z8 : LLM) : Option R :=
  f22.p0_e0' L N k z7 z8
def f22.b' {R : Type} (L N : Nat) (k : LLM → Option R) (w0 : LLI → Int → Int → LLM → LLM → LLM → Option R) (x0 : Graph) : Option R :=
  (f47 L N (Graph.mk x0.moves)).bind fun y0 =>
  w0 y0 (x0.moves.length : Int) (0 : Int) x0.moves ([] : LLM) ([] : LLM)
def f22.b {R : Type} (L N : Nat) (k : LLM → Option R) (x0 : Graph) : Option R :=
  f22.b' L N k (fun s1 s2 s3 s4 s5 s6 => f22.l0 L N (fun z7 z8 => f22.p0_e0 L N k z7 z8) L s1 s2 s3 s4 s5 s6) x0
def f22 (L N : Nat) (x0 : Graph) : Option (LLM) := f22.b L N some x0
def f22.ent (L N : Nat) (args : List AV) (vw : View) (site : Nat) : Ans := match roD [(.st 2)] vw args with
  | some d => ⟨LLM, f22 L N d.1, fun y => (RN.av site (.agg []) (()), [(site, some (mkO (some 0) 48 (.sl (.st 0)) y))], [])⟩
  | none => Ans.no
noncomputable def E22 (L N : Nat) : Env := { P := Tryz.prog, ty := tyOf, Φ := (Φ47 L N), inl := inlT, live := lives, liveX := livesX, L := L, dp := (some 0), prom := promT, heal := healT, ren := renT }
noncomputable def f22.c0 : Code := loopAt 0 (codeOf Tryz.f22)
noncomputable def f22.c1 : Code := loopAt 2 f22.c0
noncomputable def f22.c2 : Code := loopAt 4 f22.c1
noncomputable def f22.c3 : Code := loopAt 6 f22.c2
theorem f22.s3_eq {R : Type} (L N : Nat) (κ : Ex → T → H → Option R) (rec : T → H → Option R) (s49 : LLI) (s50 : Int) (s51 : Int) (s52 : LI) (s53 : Int) (s54 : Int) (s55 : LM) (s56 : Int) (s57 : Int) (s58 : LI) (s59 : Int) (s60 : Int) (s61 : LLM) (s62 : Int) (s63 : Int) (s64 : LM) (s65 : LLM) (s66 : LLM) :
    evRd (E22 L N) (evCallI (E22 L N) 0 1000) 1000 22 79 6 f22.c3 κ rec (f22.T3 s49 s50 s51 s52 s53 s54 s55 s56 s57 s58 s59 s60 s61 s62 s63 s64 s65 s66) (f22.H3 s49 s50 s51 s52 s53 s54 s55 s56 s57 s58 s59 s60 s61 s62 s63 s64 s65 s66)
    = f22.s3 L N (fun z67 z68 z69 z70 z71 z72 z73 z74 z75 z76 z77 z78 z79 => κ (.exit 6) (f22.T3_e6 z67 z68 z69 z70 z71 z72 z73 z74 z75 z76 z77 z78 z79) (f22.H3_e6 z67 z68 z69 z70 z71 z72 z73 z74 z75 z76 z77 z78 z79)) (fun s49 s50 s51 s52 s53 s54 s55 s56 s57 s58 s59 s60 s61 s62 s63 s64 s65 s66 => rec (f22.T3 s49 s50 s51 s52 s53 s54 s55 s56 s57 s58 s59 s60 s61 s62 s63 s64 s65 s66) (f22.H3 s49 s50 s51 s52 s53 s54 s55 s56 s57 s58 s59 s60 s61 s62 s63 s64 s65 s66)) s49 s50 s51 s52 s53 s54 s55 s56 s57 s58 s59 s60 s61 s62 s63 s64 s65 s66 := by kernel_rfl
theorem f22.l3_eq {R : Type} (L N : Nat) (κ : Ex → T → H → Option R) : ∀ (n : Nat) (s49 : LLI) (s50 : Int) (s51 : Int) (s52 : LI) (s53 : Int) (s54 : Int) (s55 : LM) (s56 : Int) (s57 : Int) (s58 : LI) (s59 : Int) (s60 : Int) (s61 : LLM) (s62 : Int) (s63 : Int) (s64 : LM) (s65 : LLM) (s66 : LLM),
    evLp (E22 L N) (evCallI (E22 L N) 0 1000) 1000 22 79 6 f22.c3 κ n (f22.T3 s49 s50 s51 s52 s53 s54 s55 s56 s57 s58 s59 s60 s61 s62 s63 s64 s65 s66) (f22.H3 s49 s50 s51 s52 s53 s54 s55 s56 s57 s58 s59 s60 s61 s62 s63 s64 s65 s66)
    = f22.l3 L N (fun z67 z68 z69 z70 z71 z72 z73 z74 z75 z76 z77 z78 z79 => κ (.exit 6) (f22.T3_e6 z67 z68 z69 z70 z71 z72 z73 z74 z75 z76 z77 z78 z79) (f22.H3_e6 z67 z68 z69 z70 z71 z72 z73 z74 z75 z76 z77 z78 z79)) n s49 s50 s51 s52 s53 s54 s55 s56 s57 s58 s59 s60 s61 s62 s63 s64 s65 s66 := by
  intro n
  induction n with
  | zero => intros; rfl
  | succ n ih =>
    intro s49 s50 s51 s52 s53 s54 s55 s56 s57 s58 s59 s60 s61 s62 s63 s64 s65 s66
    rw [evLp_succ, f22.s3_eq]
    simp only [ih]
    rfl
theorem f22.p3_e6_eq {R : Type} (L N : Nat) (κ : Ex → T → H → Option R) (rec : T → H → Option R) (z67 : LLI) (z68 : Int) (z69 : Int) (z70 : LI) (z71 : Int) (z72 : Int) (z73 : LM) (z74 : Int) (z75 : Int) (z76 : LLM) (z77 : LM) (z78 : LLM) (z79 : LLM) :
    (contAt (E22 L N) (evCallI (E22 L N) 0 1000) 1000 22 79 6 f22.c2 (rdK (E22 L N) 1000 22 79 4 κ rec)) (.exit 6) (f22.T3_e6 z67 z68 z69 z70 z71 z72 z73 z74 z75 z76 z77 z78 z79) (f22.H3_e6 z67 z68 z69 z70 z71 z72 z73 z74 z75 z76 z77 z78 z79)
    = f22.p3_e6 L N (fun z39 z40 z41 z42 z43 z44 z45 z46 z47 z48 => κ (.exit 4) (f22.T2_e4 z39 z40 z41 z42 z43 z44 z45 z46 z47 z48) (f22.H2_e4 z39 z40 z41 z42 z43 z44 z45 z46 z47 z48)) (fun s26 s27 s28 s29 s30 s31 s32 s33 s34 s35 s36 s37 s38 => rec (f22.T2 s26 s27 s28 s29 s30 s31 s32 s33 s34 s35 s36 s37 s38) (f22.H2 s26 s27 s28 s29 s30 s31 s32 s33 s34 s35 s36 s37 s38)) z67 z68 z69 z70 z71 z72 z73 z74 z75 z76 z77 z78 z79 := by kernel_rfl
theorem f22.s2_eq {R : Type} (L N : Nat) (κ : Ex → T → H → Option R) (rec : T → H → Option R) (s26 : LLI) (s27 : Int) (s28 : Int) (s29 : LI) (s30 : Int) (s31 : Int) (s32 : LM) (s33 : Int) (s34 : Int) (s35 : LLM) (s36 : LM) (s37 : LLM) (s38 : LLM) :
    evRd (E22 L N) (evCallI (E22 L N) 0 1000) 1000 22 79 4 f22.c2 κ rec (f22.T2 s26 s27 s28 s29 s30 s31 s32 s33 s34 s35 s36 s37 s38) (f22.H2 s26 s27 s28 s29 s30 s31 s32 s33 s34 s35 s36 s37 s38)
    = f22.s2 L N (fun z39 z40 z41 z42 z43 z44 z45 z46 z47 z48 => κ (.exit 4) (f22.T2_e4 z39 z40 z41 z42 z43 z44 z45 z46 z47 z48) (f22.H2_e4 z39 z40 z41 z42 z43 z44 z45 z46 z47 z48)) (fun s26 s27 s28 s29 s30 s31 s32 s33 s34 s35 s36 s37 s38 => rec (f22.T2 s26 s27 s28 s29 s30 s31 s32 s33 s34 s35 s36 s37 s38) (f22.H2 s26 s27 s28 s29 s30 s31 s32 s33 s34 s35 s36 s37 s38)) s26 s27 s28 s29 s30 s31 s32 s33 s34 s35 s36 s37 s38 := by
  refine Eq.trans (b := f22.s2' L N (fun z39 z40 z41 z42 z43 z44 z45 z46 z47 z48 => κ (.exit 4) (f22.T2_e4 z39 z40 z41 z42 z43 z44 z45 z46 z47 z48) (f22.H2_e4 z39 z40 z41 z42 z43 z44 z45 z46 z47 z48)) (fun s26 s27 s28 s29 s30 s31 s32 s33 s34 s35 s36 s37 s38 => rec (f22.T2 s26 s27 s28 s29 s30 s31 s32 s33 s34 s35 s36 s37 s38) (f22.H2 s26 s27 s28 s29 s30 s31 s32 s33 s34 s35 s36 s37 s38)) (fun s49 s50 s51 s52 s53 s54 s55 s56 s57 s58 s59 s60 s61 s62 s63 s64 s65 s66 => evLp (E22 L N) (evCallI (E22 L N) 0 1000) 1000 22 79 6 f22.c3 (contAt (E22 L N) (evCallI (E22 L N) 0 1000) 1000 22 79 6 f22.c2 (rdK (E22 L N) 1000 22 79 4 κ rec)) L (f22.T3 s49 s50 s51 s52 s53 s54 s55 s56 s57 s58 s59 s60 s61 s62 s63 s64 s65 s66) (f22.H3 s49 s50 s51 s52 s53 s54 s55 s56 s57 s58 s59 s60 s61 s62 s63 s64 s65 s66)) s26 s27 s28 s29 s30 s31 s32 s33 s34 s35 s36 s37 s38) (by kernel_rfl) ?_
  unfold f22.s2
  simp only [f22.l3_eq, f22.p3_e6_eq]
theorem f22.l2_eq {R : Type} (L N : Nat) (κ : Ex → T → H → Option R) : ∀ (n : Nat) (s26 : LLI) (s27 : Int) (s28 : Int) (s29 : LI) (s30 : Int) (s31 : Int) (s32 : LM) (s33 : Int) (s34 : Int) (s35 : LLM) (s36 : LM) (s37 : LLM) (s38 : LLM),
    evLp (E22 L N) (evCallI (E22 L N) 0 1000) 1000 22 79 4 f22.c2 κ n (f22.T2 s26 s27 s28 s29 s30 s31 s32 s33 s34 s35 s36 s37 s38) (f22.H2 s26 s27 s28 s29 s30 s31 s32 s33 s34 s35 s36 s37 s38)
    = f22.l2 L N (fun z39 z40 z41 z42 z43 z44 z45 z46 z47 z48 => κ (.exit 4) (f22.T2_e4 z39 z40 z41 z42 z43 z44 z45 z46 z47 z48) (f22.H2_e4 z39 z40 z41 z42 z43 z44 z45 z46 z47 z48)) n s26 s27 s28 s29 s30 s31 s32 s33 s34 s35 s36 s37 s38 := by
  intro n
  induction n with
  | zero => intros; rfl
  | succ n ih =>
    intro s26 s27 s28 s29 s30 s31 s32 s33 s34 s35 s36 s37 s38
    rw [evLp_succ, f22.s2_eq]
    simp only [ih]
    rfl
theorem f22.p2_e4_eq {R : Type} (L N : Nat) (κ : Ex → T → H → Option R) (rec : T → H → Option R) (z39 : LLI) (z40 : Int) (z41 : Int) (z42 : LI) (z43 : Int) (z44 : Int) (z45 : LLM) (z46 : LM) (z47 : LLM) (z48 : LLM) :
    (contAt (E22 L N) (evCallI (E22 L N) 0 1000) 1000 22 79 4 f22.c1 (rdK (E22 L N) 1000 22 79 2 κ rec)) (.exit 4) (f22.T2_e4 z39 z40 z41 z42 z43 z44 z45 z46 z47 z48) (f22.H2_e4 z39 z40 z41 z42 z43 z44 z45 z46 z47 z48)
    = f22.p2_e4 L N (fun z19 z20 z21 z22 z23 z24 z25 => κ (.exit 2) (f22.T1_e2 z19 z20 z21 z22 z23 z24 z25) (f22.H1_e2 z19 z20 z21 z22 z23 z24 z25)) (fun s9 s10 s11 s12 s13 s14 s15 s16 s17 s18 => rec (f22.T1 s9 s10 s11 s12 s13 s14 s15 s16 s17 s18) (f22.H1 s9 s10 s11 s12 s13 s14 s15 s16 s17 s18)) z39 z40 z41 z42 z43 z44 z45 z46 z47 z48 := by kernel_rfl
theorem f22.s1_eq {R : Type} (L N : Nat) (κ : Ex → T → H → Option R) (rec : T → H → Option R) (s9 : LLI) (s10 : Int) (s11 : Int) (s12 : LI) (s13 : Int) (s14 : Int) (s15 : LLM) (s16 : LM) (s17 : LLM) (s18 : LLM) :
    evRd (E22 L N) (evCallI (E22 L N) 0 1000) 1000 22 79 2 f22.c1 κ rec (f22.T1 s9 s10 s11 s12 s13 s14 s15 s16 s17 s18) (f22.H1 s9 s10 s11 s12 s13 s14 s15 s16 s17 s18)
    = f22.s1 L N (fun z19 z20 z21 z22 z23 z24 z25 => κ (.exit 2) (f22.T1_e2 z19 z20 z21 z22 z23 z24 z25) (f22.H1_e2 z19 z20 z21 z22 z23 z24 z25)) (fun s9 s10 s11 s12 s13 s14 s15 s16 s17 s18 => rec (f22.T1 s9 s10 s11 s12 s13 s14 s15 s16 s17 s18) (f22.H1 s9 s10 s11 s12 s13 s14 s15 s16 s17 s18)) s9 s10 s11 s12 s13 s14 s15 s16 s17 s18 := by
  refine Eq.trans (b := f22.s1' L N (fun z19 z20 z21 z22 z23 z24 z25 => κ (.exit 2) (f22.T1_e2 z19 z20 z21 z22 z23 z24 z25) (f22.H1_e2 z19 z20 z21 z22 z23 z24 z25)) (fun s9 s10 s11 s12 s13 s14 s15 s16 s17 s18 => rec (f22.T1 s9 s10 s11 s12 s13 s14 s15 s16 s17 s18) (f22.H1 s9 s10 s11 s12 s13 s14 s15 s16 s17 s18)) (fun s26 s27 s28 s29 s30 s31 s32 s33 s34 s35 s36 s37 s38 => evLp (E22 L N) (evCallI (E22 L N) 0 1000) 1000 22 79 4 f22.c2 (contAt (E22 L N) (evCallI (E22 L N) 0 1000) 1000 22 79 4 f22.c1 (rdK (E22 L N) 1000 22 79 2 κ rec)) L (f22.T2 s26 s27 s28 s29 s30 s31 s32 s33 s34 s35 s36 s37 s38) (f22.H2 s26 s27 s28 s29 s30 s31 s32 s33 s34 s35 s36 s37 s38)) s9 s10 s11 s12 s13 s14 s15 s16 s17 s18) (by kernel_rfl) ?_
  unfold f22.s1
  simp only [f22.l2_eq, f22.p2_e4_eq]
theorem f22.l1_eq {R : Type} (L N : Nat) (κ : Ex → T → H → Option R) : ∀ (n : Nat) (s9 : LLI) (s10 : Int) (s11 : Int) (s12 : LI) (s13 : Int) (s14 : Int) (s15 : LLM) (s16 : LM) (s17 : LLM) (s18 : LLM),
    evLp (E22 L N) (evCallI (E22 L N) 0 1000) 1000 22 79 2 f22.c1 κ n (f22.T1 s9 s10 s11 s12 s13 s14 s15 s16 s17 s18) (f22.H1 s9 s10 s11 s12 s13 s14 s15 s16 s17 s18)
    = f22.l1 L N (fun z19 z20 z21 z22 z23 z24 z25 => κ (.exit 2) (f22.T1_e2 z19 z20 z21 z22 z23 z24 z25) (f22.H1_e2 z19 z20 z21 z22 z23 z24 z25)) n s9 s10 s11 s12 s13 s14 s15 s16 s17 s18 := by
  intro n
  induction n with
  | zero => intros; rfl
  | succ n ih =>
    intro s9 s10 s11 s12 s13 s14 s15 s16 s17 s18
    rw [evLp_succ, f22.s1_eq]
    simp only [ih]
    rfl
theorem f22.p1_e2_eq {R : Type} (L N : Nat) (κ : Ex → T → H → Option R) (rec : T → H → Option R) (z19 : LLI) (z20 : Int) (z21 : Int) (z22 : LLM) (z23 : LM) (z24 : LLM) (z25 : LLM) :
    (contAt (E22 L N) (evCallI (E22 L N) 0 1000) 1000 22 79 2 f22.c0 (rdK (E22 L N) 1000 22 79 0 κ rec)) (.exit 2) (f22.T1_e2 z19 z20 z21 z22 z23 z24 z25) (f22.H1_e2 z19 z20 z21 z22 z23 z24 z25)
    = f22.p1_e2 L N (fun z7 z8 => κ (.exit 0) (f22.T0_e0 z7 z8) (f22.H0_e0 z7 z8)) (fun s1 s2 s3 s4 s5 s6 => rec (f22.T0 s1 s2 s3 s4 s5 s6) (f22.H0 s1 s2 s3 s4 s5 s6)) z19 z20 z21 z22 z23 z24 z25 := by kernel_rfl
theorem f22.s0_eq {R : Type} (L N : Nat) (κ : Ex → T → H → Option R) (rec : T → H → Option R) (s1 : LLI) (s2 : Int) (s3 : Int) (s4 : LLM) (s5 : LLM) (s6 : LLM) :
    evRd (E22 L N) (evCallI (E22 L N) 0 1000) 1000 22 79 0 f22.c0 κ rec (f22.T0 s1 s2 s3 s4 s5 s6) (f22.H0 s1 s2 s3 s4 s5 s6)
    = f22.s0 L N (fun z7 z8 => κ (.exit 0) (f22.T0_e0 z7 z8) (f22.H0_e0 z7 z8)) (fun s1 s2 s3 s4 s5 s6 => rec (f22.T0 s1 s2 s3 s4 s5 s6) (f22.H0 s1 s2 s3 s4 s5 s6)) s1 s2 s3 s4 s5 s6 := by
  refine Eq.trans (b := f22.s0' L N (fun z7 z8 => κ (.exit 0) (f22.T0_e0 z7 z8) (f22.H0_e0 z7 z8)) (fun s1 s2 s3 s4 s5 s6 => rec (f22.T0 s1 s2 s3 s4 s5 s6) (f22.H0 s1 s2 s3 s4 s5 s6)) (fun s9 s10 s11 s12 s13 s14 s15 s16 s17 s18 => evLp (E22 L N) (evCallI (E22 L N) 0 1000) 1000 22 79 2 f22.c1 (contAt (E22 L N) (evCallI (E22 L N) 0 1000) 1000 22 79 2 f22.c0 (rdK (E22 L N) 1000 22 79 0 κ rec)) L (f22.T1 s9 s10 s11 s12 s13 s14 s15 s16 s17 s18) (f22.H1 s9 s10 s11 s12 s13 s14 s15 s16 s17 s18)) s1 s2 s3 s4 s5 s6) (by kernel_rfl) ?_
  unfold f22.s0
  simp only [f22.l1_eq, f22.p1_e2_eq]
theorem f22.l0_eq {R : Type} (L N : Nat) (κ : Ex → T → H → Option R) : ∀ (n : Nat) (s1 : LLI) (s2 : Int) (s3 : Int) (s4 : LLM) (s5 : LLM) (s6 : LLM),
    evLp (E22 L N) (evCallI (E22 L N) 0 1000) 1000 22 79 0 f22.c0 κ n (f22.T0 s1 s2 s3 s4 s5 s6) (f22.H0 s1 s2 s3 s4 s5 s6)
    = f22.l0 L N (fun z7 z8 => κ (.exit 0) (f22.T0_e0 z7 z8) (f22.H0_e0 z7 z8)) n s1 s2 s3 s4 s5 s6 := by
  intro n
  induction n with
  | zero => intros; rfl
  | succ n ih =>
    intro s1 s2 s3 s4 s5 s6
    rw [evLp_succ, f22.s0_eq]
    simp only [ih]
    rfl
theorem f22.p0_e0_eq {R : Type} (L N : Nat) (κ : RN.Den (.agg []) → List LM → Option R) (z7 : LLM) (z8 : LLM) :
    (contAt (E22 L N) (evCallI (E22 L N) 0 1000) 1000 22 79 0 (codeOf Tryz.f22) (finK (E22 L N) 1000 Tryz.f22 (finN (.agg []) (some 0) 48 (.sl (.st 0)) κ))) (.exit 0) (f22.T0_e0 z7 z8) (f22.H0_e0 z7 z8)
    = f22.p0_e0 L N (fun a0 => κ (()) a0) z7 z8 := by kernel_rfl
theorem f22.b_eq {R : Type} (L N : Nat) (κ : RN.Den (.agg []) → List LM → Option R) (x0 : Graph) :
    evBody (E22 L N) (evCallI (E22 L N) 0 1000) 1000 22 Tryz.f22 [(.tv (.st 2) x0)] [] [] (finN (.agg []) (some 0) 48 (.sl (.st 0)) κ)
    = f22.b L N (fun a0 => κ (()) a0) x0 := by
  refine Eq.trans (b := f22.b' L N (fun a0 => κ (()) a0) (fun s1 s2 s3 s4 s5 s6 => evLp (E22 L N) (evCallI (E22 L N) 0 1000) 1000 22 79 0 f22.c0 (contAt (E22 L N) (evCallI (E22 L N) 0 1000) 1000 22 79 0 (codeOf Tryz.f22) (finK (E22 L N) 1000 Tryz.f22 (finN (.agg []) (some 0) 48 (.sl (.st 0)) κ))) L (f22.T0 s1 s2 s3 s4 s5 s6) (f22.H0 s1 s2 s3 s4 s5 s6)) x0) (by kernel_rfl) ?_
  unfold f22.b
  simp only [f22.l0_eq, f22.p0_e0_eq]
theorem f22.ok (L N : Nat) (hΦ : TellsOk Tryz.prog ((Φ47 L N))) : EntOk Tryz.prog 22 (f22.ent L N) := by
  intro args vw site h
  unfold f22.ent
  split
  · rename_i d ha
    intro y hy hs
    refine call_ron (y := y) (dep := 1000) (E := (E22 L N)) (ts := [(.st 2)]) (rn := (.agg [])) (q := (some 0)) (el := 48) (ty := (.sl (.st 0))) (d1 := (())) (xs := y) (κ := (fun d xs => some xs)) (sound_of hΦ) okP (callI_sound (sound_of hΦ) okP 0 1000) (f := Tryz.f22) rfl hs ha ?_ (fun _ _ h => by obtain rfl := Option.some.inj h; exact ⟨rfl, rfl⟩) rfl site
    exact (f22.b_eq L N (fun d xs => some xs) d.1).trans (Eq.trans (b := f22.b L N some d.1) (by kernel_rfl) hy)
  · intro y hy
    cases hy
def Φ22 (L N : Nat) : Tells := (addT (Φ47 L N) 22 (f22.ent L N))
theorem Φ22_ok (L N : Nat) : TellsOk Tryz.prog (Φ22 L N) := addT_ok (Φ47_ok L N) (f22.ok L N (Φ47_ok L N))
def f8.b' {R : Type} (L N : Nat) (k : LLM → Bool → Option R) (x0 : Graph) : Option R :=
  (f21 L N (Graph.mk x0.moves)).bind fun y0 =>
  bif (!y0) then
    k [] false
  else (f22 L N (Graph.mk x0.moves)).bind fun y1 =>
  k y1 true
def f8.b {R : Type} (L N : Nat) (k : LLM → Bool → Option R) (x0 : Graph) : Option R :=
  f8.b' L N k x0
def f8 (L N : Nat) (x0 : Graph) : Option (LLM × Bool) := f8.b L N (fun a0 a1 => some (a0, a1)) x0
def f8.ent (L N : Nat) (args : List AV) (vw : View) (site : Nat) : Ans := match roD [(.st 2)] vw args with
  | some d => ⟨LLM × Bool, f8 L N d.1, fun y => (RN.av site (.tup (.agg []) [.bool]) ((()), (y.2, ())), [(site, some (mkO (some 0) 48 (.sl (.st 0)) y.1))], [])⟩
  | none => Ans.no
noncomputable def E8 (L N : Nat) : Env := { P := Tryz.prog, ty := tyOf, Φ := (Φ22 L N), inl := inlT, live := lives, liveX := livesX, L := L, dp := (some 0), prom := promT, heal := healT, ren := renT }
theorem f8.b_eq {R : Type} (L N : Nat) (κ : RN.Den (.tup (.agg []) [.bool]) → List LM → Option R) (x0 : Graph) :
    evBody (E8 L N) (evCallI (E8 L N) 0 1000) 1000 8 Tryz.f8 [(.tv (.st 2) x0)] [] [] (finN (.tup (.agg []) [.bool]) (some 0) 48 (.sl (.st 0)) κ)
    = f8.b L N (fun a0 a1 => κ ((()), (a1, ())) a0) x0 := by kernel_rfl
theorem f8.ok (L N : Nat) (hΦ : TellsOk Tryz.prog ((Φ22 L N))) : EntOk Tryz.prog 8 (f8.ent L N) := by
  intro args vw site h
  unfold f8.ent
  split
  · rename_i d ha
    intro y hy hs
    refine call_ron (y := y) (dep := 1000) (E := (E8 L N)) (ts := [(.st 2)]) (rn := (.tup (.agg []) [.bool])) (q := (some 0)) (el := 48) (ty := (.sl (.st 0))) (d1 := ((()), (y.2, ()))) (xs := y.1) (κ := (fun d xs => some (xs, d.2.1))) (sound_of hΦ) okP (callI_sound (sound_of hΦ) okP 0 1000) (f := Tryz.f8) rfl hs ha ?_ (fun _ _ h => by obtain rfl := Option.some.inj h; exact ⟨rfl, rfl⟩) rfl site
    exact (f8.b_eq L N (fun d xs => some (xs, d.2.1)) d.1).trans (Eq.trans (b := f8.b L N (fun a0 a1 => some (a0, a1)) d.1) (by kernel_rfl) hy)
  · intro y hy
    cases hy
def Φ8 (L N : Nat) : Tells := (addT (Φ22 L N) 8 (f8.ent L N))
theorem Φ8_ok (L N : Nat) : TellsOk Tryz.prog (Φ8 L N) := addT_ok (Φ22_ok L N) (f8.ok L N (Φ22_ok L N))
def f88.s0' {R : Type} (L N : Nat) (k0_e0 : Option R) (k0_r : Bool → Option R) (rec0 : LI → LI → Int → Int → Option R) (s0 : LI) (s1 : LI) (s2 : Int) (s3 : Int) : Option R :=
  bif (decide (s3 < s2)) then
    bif (decide (0 ≤ s3) && decide (s3 < (s0.length : Int))) then
      bif (decide (0 ≤ s3) && decide (s3 < (s1.length : Int))) then
        bif ((listAt s0 (0 : Int) s3.toNat) != (listAt s1 (0 : Int) s3.toNat)) then
          k0_r false
        else rec0 s0 s1 s2 (wi (s3 + (1 : Int)))
      else none
    else none
  else k0_e0
def f88.s0 {R : Type} (L N : Nat) (k0_e0 : Option R) (k0_r : Bool → Option R) (rec0 : LI → LI → Int → Int → Option R) (s0 : LI) (s1 : LI) (s2 : Int) (s3 : Int) : Option R :=
  f88.s0' L N k0_e0 k0_r rec0 s0 s1 s2 s3
def f88.l0 {R : Type} (L N : Nat) (k0_e0 : Option R) (k0_r : Bool → Option R) : Nat → LI → LI → Int → Int → Option R
  | 0, _, _, _, _ => none
  | n + 1, s0, s1, s2, s3 => f88.s0 L N k0_e0 k0_r (f88.l0 L N k0_e0 k0_r n) s0 s1 s2 s3
def f88.T0 (s0 : LI) (s1 : LI) (s2 : Int) (s3 : Int) : T := mkT 26 [(0, (.tv (.sl i64) s0)), (1, (.tv (.sl i64) s1)), (12, (.tv i64 s2)), (13, (.tv i64 s3))]
def f88.H0 (s0 : LI) (s1 : LI) (s2 : Int) (s3 : Int) : H := []
def f88.T0_e0 : T := mkT 26 []
def f88.H0_e0 : H := []
def f88.T0_r (z4 : Bool) : T := mkT 26 [(4, (.tv .bool z4))]
def f88.H0_r (z4 : Bool) : H := []
def f88.p0_e0' {R : Type} (L N : Nat) (k : Bool → Option R) : Option R :=
  k true
def f88.p0_e0 {R : Type} (L N : Nat) (k : Bool → Option R) : Option R :=
  f88.p0_e0' L N k
def f88.p0_r' {R : Type} (L N : Nat) (k : Bool → Option R) (z4 : Bool) : Option R :=
  k z4
def f88.p0_r {R : Type} (L N : Nat) (k : Bool → Option R) (z4 : Bool) : Option R :=
  f88.p0_r' L N k z4
def f88.b' {R : Type} (L N : Nat) (k : Bool → Option R) (w0 : LI → LI → Int → Int → Option R) (x0 : LI) (x1 : LI) : Option R :=
  bif ((x0.length : Int) != (x1.length : Int)) then
    k false
  else w0 x0 x1 (x0.length : Int) (0 : Int)
def f88.b {R : Type} (L N : Nat) (k : Bool → Option R) (x0 : LI) (x1 : LI) : Option R :=
  f88.b' L N k (fun s0 s1 s2 s3 => f88.l0 L N (f88.p0_e0 L N k) (fun z4 => f88.p0_r L N k z4) L s0 s1 s2 s3) x0 x1
def f88 (L N : Nat) (x0 : LI) (x1 : LI) : Option (Bool) := f88.b L N some x0 x1
def f88.ent (L N : Nat) (args : List AV) (vw : View) (site : Nat) : Ans := match roD [(.sl i64), (.sl i64)] vw args with
  | some d => ⟨Bool, f88 L N d.1 d.2.1, fun y => ((.tv .bool y), [], [])⟩
  | none => Ans.no
noncomputable def E88 (L N : Nat) : Env := { P := Tryz.prog, ty := tyOf, Φ := (Φ8 L N), inl := inlT, live := lives, liveX := livesX, L := L, dp := none, prom := promT, heal := healT, ren := renT }
noncomputable def f88.c0 : Code := loopAt 0 (codeOf Tryz.f88)
theorem f88.s0_eq {R : Type} (L N : Nat) (κ : Ex → T → H → Option R) (rec : T → H → Option R) (s0 : LI) (s1 : LI) (s2 : Int) (s3 : Int) :
    evRd (E88 L N) (evCallI (E88 L N) 0 1000) 1000 88 26 0 f88.c0 κ rec (f88.T0 s0 s1 s2 s3) (f88.H0 s0 s1 s2 s3)
    = f88.s0 L N (κ (.exit 0) f88.T0_e0 f88.H0_e0) (fun z4 => κ .ret (f88.T0_r z4) (f88.H0_r z4)) (fun s0 s1 s2 s3 => rec (f88.T0 s0 s1 s2 s3) (f88.H0 s0 s1 s2 s3)) s0 s1 s2 s3 := by kernel_rfl
theorem f88.l0_eq {R : Type} (L N : Nat) (κ : Ex → T → H → Option R) : ∀ (n : Nat) (s0 : LI) (s1 : LI) (s2 : Int) (s3 : Int),
    evLp (E88 L N) (evCallI (E88 L N) 0 1000) 1000 88 26 0 f88.c0 κ n (f88.T0 s0 s1 s2 s3) (f88.H0 s0 s1 s2 s3)
    = f88.l0 L N (κ (.exit 0) f88.T0_e0 f88.H0_e0) (fun z4 => κ .ret (f88.T0_r z4) (f88.H0_r z4)) n s0 s1 s2 s3 := by
  intro n
  induction n with
  | zero => intros; rfl
  | succ n ih =>
    intro s0 s1 s2 s3
    rw [evLp_succ, f88.s0_eq]
    simp only [ih]
    rfl
theorem f88.p0_e0_eq {R : Type} (L N : Nat) (κ : AV → Option R) :
    (contAt (E88 L N) (evCallI (E88 L N) 0 1000) 1000 88 26 0 (codeOf Tryz.f88) (finK (E88 L N) 1000 Tryz.f88 (finC (.one .bool) κ))) (.exit 0) f88.T0_e0 f88.H0_e0
    = f88.p0_e0 L N (fun a0 => κ (.tv .bool a0)) := by kernel_rfl
theorem f88.p0_r_eq {R : Type} (L N : Nat) (κ : AV → Option R) (z4 : Bool) :
    (contAt (E88 L N) (evCallI (E88 L N) 0 1000) 1000 88 26 0 (codeOf Tryz.f88) (finK (E88 L N) 1000 Tryz.f88 (finC (.one .bool) κ))) .ret (f88.T0_r z4) (f88.H0_r z4)
    = f88.p0_r L N (fun a0 => κ (.tv .bool a0)) z4 := by kernel_rfl
theorem f88.b_eq {R : Type} (L N : Nat) (κ : AV → Option R) (x0 : LI) (x1 : LI) :
    evBody (E88 L N) (evCallI (E88 L N) 0 1000) 1000 88 Tryz.f88 [(.tv (.sl i64) x0), (.tv (.sl i64) x1)] [] [] (finC (.one .bool) κ)
    = f88.b L N (fun a0 => κ (.tv .bool a0)) x0 x1 := by
  refine Eq.trans (b := f88.b' L N (fun a0 => κ (.tv .bool a0)) (fun s0 s1 s2 s3 => evLp (E88 L N) (evCallI (E88 L N) 0 1000) 1000 88 26 0 f88.c0 (contAt (E88 L N) (evCallI (E88 L N) 0 1000) 1000 88 26 0 (codeOf Tryz.f88) (finK (E88 L N) 1000 Tryz.f88 (finC (.one .bool) κ))) L (f88.T0 s0 s1 s2 s3) (f88.H0 s0 s1 s2 s3)) x0 x1) (by kernel_rfl) ?_
  unfold f88.b
  simp only [f88.l0_eq, f88.p0_e0_eq, f88.p0_r_eq]
theorem f88.ok (L N : Nat) (hΦ : TellsOk Tryz.prog ((Φ8 L N))) : EntOk Tryz.prog 88 (f88.ent L N) := by
  intro args vw site h
  unfold f88.ent
  split
  · rename_i d ha
    intro y hy hs
    refine call_ro (dep := 1000) (E := (E88 L N)) (rs := (.one .bool)) (κ := unR (.one .bool)) (sound_of hΦ) okP (callI_sound (sound_of hΦ) okP 0 1000) (f := Tryz.f88) rfl hs ha ?_ (fun _ h => unR_some h) rfl site
    exact (f88.b_eq L N (unR (.one .bool)) d.1 d.2.1).trans (Eq.trans (b := f88.b L N some d.1 d.2.1) (by kernel_rfl) hy)
  · intro y hy
    cases hy
def Φ88 (L N : Nat) : Tells := (addT (Φ8 L N) 88 (f88.ent L N))
theorem Φ88_ok (L N : Nat) : TellsOk Tryz.prog (Φ88 L N) := addT_ok (Φ8_ok L N) (f88.ok L N (Φ8_ok L N))
def f107.s0' {R : Type} (L N : Nat) (k0_e0 : Option R) (k0_r : Bool → Option R) (rec0 : LM → LM → Int → Int → Option R) (s0 : LM) (s1 : LM) (s2 : Int) (s3 : Int) : Option R :=
  bif (decide (s3 < s2)) then
    bif (decide (0 ≤ s3) && decide (s3 < (s0.length : Int))) then
      bif (decide (0 ≤ s3) && decide (s3 < (s1.length : Int))) then
        bif (!(Move.eqb (listAt s0 (Ty.dflt (.st 0)) s3.toNat) (listAt s1 (Ty.dflt (.st 0)) s3.toNat))) then
          k0_r false
        else rec0 s0 s1 s2 (wi (s3 + (1 : Int)))
      else none
    else none
  else k0_e0
def f107.s0 {R : Type} (L N : Nat) (k0_e0 : Option R) (k0_r : Bool → Option R) (rec0 : LM → LM → Int → Int → Option R) (s0 : LM) (s1 : LM) (s2 : Int) (s3 : Int) : Option R :=
  f107.s0' L N k0_e0 k0_r rec0 s0 s1 s2 s3
def f107.l0 {R : Type} (L N : Nat) (k0_e0 : Option R) (k0_r : Bool → Option R) : Nat → LM → LM → Int → Int → Option R
  | 0, _, _, _, _ => none
  | n + 1, s0, s1, s2, s3 => f107.s0 L N k0_e0 k0_r (f107.l0 L N k0_e0 k0_r n) s0 s1 s2 s3
def f107.T0 (s0 : LM) (s1 : LM) (s2 : Int) (s3 : Int) : T := mkT 26 [(0, (.tv (.sl (.st 0)) s0)), (1, (.tv (.sl (.st 0)) s1)), (12, (.tv i64 s2)), (13, (.tv i64 s3))]
def f107.H0 (s0 : LM) (s1 : LM) (s2 : Int) (s3 : Int) : H := []
def f107.T0_e0 : T := mkT 26 []
def f107.H0_e0 : H := []
def f107.T0_r (z4 : Bool) : T := mkT 26 [(4, (.tv .bool z4))]
def f107.H0_r (z4 : Bool) : H := []
def f107.p0_e0' {R : Type} (L N : Nat) (k : Bool → Option R) : Option R :=
  k true
def f107.p0_e0 {R : Type} (L N : Nat) (k : Bool → Option R) : Option R :=
  f107.p0_e0' L N k
def f107.p0_r' {R : Type} (L N : Nat) (k : Bool → Option R) (z4 : Bool) : Option R :=
  k z4
def f107.p0_r {R : Type} (L N : Nat) (k : Bool → Option R) (z4 : Bool) : Option R :=
  f107.p0_r' L N k z4
def f107.b' {R : Type} (L N : Nat) (k : Bool → Option R) (w0 : LM → LM → Int → Int → Option R) (x0 : LM) (x1 : LM) : Option R :=
  bif ((x0.length : Int) != (x1.length : Int)) then
    k false
  else w0 x0 x1 (x0.length : Int) (0 : Int)
def f107.b {R : Type} (L N : Nat) (k : Bool → Option R) (x0 : LM) (x1 : LM) : Option R :=
  f107.b' L N k (fun s0 s1 s2 s3 => f107.l0 L N (f107.p0_e0 L N k) (fun z4 => f107.p0_r L N k z4) L s0 s1 s2 s3) x0 x1
def f107 (L N : Nat) (x0 : LM) (x1 : LM) : Option (Bool) := f107.b L N some x0 x1
def f107.ent (L N : Nat) (args : List AV) (vw : View) (site : Nat) : Ans := match roD [(.sl (.st 0)), (.sl (.st 0))] vw args with
  | some d => ⟨Bool, f107 L N d.1 d.2.1, fun y => ((.tv .bool y), [], [])⟩
  | none => Ans.no
noncomputable def E107 (L N : Nat) : Env := { P := Tryz.prog, ty := tyOf, Φ := (Φ88 L N), inl := inlT, live := lives, liveX := livesX, L := L, dp := none, prom := promT, heal := healT, ren := renT }
noncomputable def f107.c0 : Code := loopAt 0 (codeOf Tryz.f107)
theorem f107.s0_eq {R : Type} (L N : Nat) (κ : Ex → T → H → Option R) (rec : T → H → Option R) (s0 : LM) (s1 : LM) (s2 : Int) (s3 : Int) :
    evRd (E107 L N) (evCallI (E107 L N) 0 1000) 1000 107 26 0 f107.c0 κ rec (f107.T0 s0 s1 s2 s3) (f107.H0 s0 s1 s2 s3)
    = f107.s0 L N (κ (.exit 0) f107.T0_e0 f107.H0_e0) (fun z4 => κ .ret (f107.T0_r z4) (f107.H0_r z4)) (fun s0 s1 s2 s3 => rec (f107.T0 s0 s1 s2 s3) (f107.H0 s0 s1 s2 s3)) s0 s1 s2 s3 := by kernel_rfl
theorem f107.l0_eq {R : Type} (L N : Nat) (κ : Ex → T → H → Option R) : ∀ (n : Nat) (s0 : LM) (s1 : LM) (s2 : Int) (s3 : Int),
    evLp (E107 L N) (evCallI (E107 L N) 0 1000) 1000 107 26 0 f107.c0 κ n (f107.T0 s0 s1 s2 s3) (f107.H0 s0 s1 s2 s3)
    = f107.l0 L N (κ (.exit 0) f107.T0_e0 f107.H0_e0) (fun z4 => κ .ret (f107.T0_r z4) (f107.H0_r z4)) n s0 s1 s2 s3 := by
  intro n
  induction n with
  | zero => intros; rfl
  | succ n ih =>
    intro s0 s1 s2 s3
    rw [evLp_succ, f107.s0_eq]
    simp only [ih]
    rfl
theorem f107.p0_e0_eq {R : Type} (L N : Nat) (κ : AV → Option R) :
    (contAt (E107 L N) (evCallI (E107 L N) 0 1000) 1000 107 26 0 (codeOf Tryz.f107) (finK (E107 L N) 1000 Tryz.f107 (finC (.one .bool) κ))) (.exit 0) f107.T0_e0 f107.H0_e0
    = f107.p0_e0 L N (fun a0 => κ (.tv .bool a0)) := by kernel_rfl
theorem f107.p0_r_eq {R : Type} (L N : Nat) (κ : AV → Option R) (z4 : Bool) :
    (contAt (E107 L N) (evCallI (E107 L N) 0 1000) 1000 107 26 0 (codeOf Tryz.f107) (finK (E107 L N) 1000 Tryz.f107 (finC (.one .bool) κ))) .ret (f107.T0_r z4) (f107.H0_r z4)
    = f107.p0_r L N (fun a0 => κ (.tv .bool a0)) z4 := by kernel_rfl
theorem f107.b_eq {R : Type} (L N : Nat) (κ : AV → Option R) (x0 : LM) (x1 : LM) :
    evBody (E107 L N) (evCallI (E107 L N) 0 1000) 1000 107 Tryz.f107 [(.tv (.sl (.st 0)) x0), (.tv (.sl (.st 0)) x1)] [] [] (finC (.one .bool) κ)
    = f107.b L N (fun a0 => κ (.tv .bool a0)) x0 x1 := by
  refine Eq.trans (b := f107.b' L N (fun a0 => κ (.tv .bool a0)) (fun s0 s1 s2 s3 => evLp (E107 L N) (evCallI (E107 L N) 0 1000) 1000 107 26 0 f107.c0 (contAt (E107 L N) (evCallI (E107 L N) 0 1000) 1000 107 26 0 (codeOf Tryz.f107) (finK (E107 L N) 1000 Tryz.f107 (finC (.one .bool) κ))) L (f107.T0 s0 s1 s2 s3) (f107.H0 s0 s1 s2 s3)) x0 x1) (by kernel_rfl) ?_
  unfold f107.b
  simp only [f107.l0_eq, f107.p0_e0_eq, f107.p0_r_eq]
theorem f107.ok (L N : Nat) (hΦ : TellsOk Tryz.prog ((Φ88 L N))) : EntOk Tryz.prog 107 (f107.ent L N) := by
  intro args vw site h
  unfold f107.ent
  split
  · rename_i d ha
    intro y hy hs
    refine call_ro (dep := 1000) (E := (E107 L N)) (rs := (.one .bool)) (κ := unR (.one .bool)) (sound_of hΦ) okP (callI_sound (sound_of hΦ) okP 0 1000) (f := Tryz.f107) rfl hs ha ?_ (fun _ h => unR_some h) rfl site
    exact (f107.b_eq L N (unR (.one .bool)) d.1 d.2.1).trans (Eq.trans (b := f107.b L N some d.1 d.2.1) (by kernel_rfl) hy)
  · intro y hy
    cases hy
def Φ107 (L N : Nat) : Tells := (addT (Φ88 L N) 107 (f107.ent L N))
theorem Φ107_ok (L N : Nat) : TellsOk Tryz.prog (Φ107 L N) := addT_ok (Φ88_ok L N) (f107.ok L N (Φ88_ok L N))
def f71_1.s0' {R : Type} (L N : Nat) (k0_e0 : LM → Option R) (rec0 : LI → LM → Int → Int → LM → Option R) (s0 : LI) (s1 : LM) (s2 : Int) (s3 : Int) (s4 : LM) : Option R :=
  bif (decide (s3 < s2)) then
    bif (decide (0 ≤ s3) && decide (s3 < (s1.length : Int))) then
      bif (decide (0 ≤ (listAt s1 (Ty.dflt (.st 0)) s3.toNat).to) && decide ((listAt s1 (Ty.dflt (.st 0)) s3.toNat).to < (s0.length : Int))) then
        bif (decide (s4.length + ([(Move.mk ((listAt s1 (Ty.dflt (.st 0)) s3.toNat).act) (listAt s0 (0 : Int) ((listAt s1 (Ty.dflt (.st 0)) s3.toNat).to).toNat))] : LM).length ≤ lim)) then
          rec0 s0 s1 s2 (wi (s3 + (1 : Int))) (s4 ++ ([(Move.mk ((listAt s1 (Ty.dflt (.st 0)) s3.toNat).act) (listAt s0 (0 : Int) ((listAt s1 (Ty.dflt (.st 0)) s3.toNat).to).toNat))] : LM))
        else none
      else none
    else none
  else k0_e0 s4
def f71_1.s0 {R : Type} (L N : Nat) (k0_e0 : LM → Option R) (rec0 : LI → LM → Int → Int → LM → Option R) (s0 : LI) (s1 : LM) (s2 : Int) (s3 : Int) (s4 : LM) : Option R :=
  f71_1.s0' L N k0_e0 rec0 s0 s1 s2 s3 s4
def f71_1.l0 {R : Type} (L N : Nat) (k0_e0 : LM → Option R) : Nat → LI → LM → Int → Int → LM → Option R
  | 0, _, _, _, _, _ => none
  | n + 1, s0, s1, s2, s3, s4 => f71_1.s0 L N k0_e0 (f71_1.l0 L N k0_e0 n) s0 s1 s2 s3 s4
def f71_1.T0 (s0 : LI) (s1 : LM) (s2 : Int) (s3 : Int) (s4 : LM) : T := mkT 34 [(0, (.tv (.sl i64) s0)), (6, (.row 1009)), (14, (.tv (.sl (.st 0)) s1)), (15, (.tv i64 s2)), (16, (.tv i64 s3))]
def f71_1.H0 (s0 : LI) (s1 : LM) (s2 : Int) (s3 : Int) (s4 : LM) : H := [(1009, (.row 50 (.st 0) s4))]
def f71_1.T0_e0 (z5 : LM) : T := mkT 34 [(6, (.row 1009))]
def f71_1.H0_e0 (z5 : LM) : H := [(1009, (.row 50 (.st 0) z5))]
def f71_1.p0_e0' {R : Type} (L N : Nat) (k : LM → Option R) (z5 : LM) : Option R :=
  ((fsortM z5)).bind fun y6 =>
  k (tidyM z5)
def f71_1.p0_e0 {R : Type} (L N : Nat) (k : LM → Option R) (z5 : LM) : Option R :=
  f71_1.p0_e0' L N k z5
def f71_1.b' {R : Type} (L N : Nat) (k : LM → Option R) (w0 : LI → LM → Int → Int → LM → Option R) (x0 : LI) (x1 : Int) (x2 : LLM) : Option R :=
  bif (decide (0 ≤ x1) && decide (x1 < (x2.length : Int))) then
    w0 x0 (listAt x2 [] x1.toNat) ((listAt x2 [] x1.toNat).length : Int) (0 : Int) ([] : LM)
  else none
def f71_1.b {R : Type} (L N : Nat) (k : LM → Option R) (x0 : LI) (x1 : Int) (x2 : LLM) : Option R :=
  f71_1.b' L N k (fun s0 s1 s2 s3 s4 => f71_1.l0 L N (fun z5 => f71_1.p0_e0 L N k z5) L s0 s1 s2 s3 s4) x0 x1 x2
def f71_1 (L N : Nat) (x0 : LI) (x1 : Int) (x2 : LLM) : Option (LM) := f71_1.b L N some x0 x1 x2
def f71_1.ent (L N : Nat) (args : List AV) (vw : View) (site : Nat) : Option Ans := match shsC [(.dat (.sl i64)), (.dat i64), (.imp (.sl (.sl (.st 0))) 0)] vw args with
  | some (d, u) => some ⟨LM, f71_1 L N d.1 d.2.1 d.2.2.1, fun y => ((.tv (.sl (.st 0)) y), u, [])⟩
  | none => none
noncomputable def E71_1 (L N : Nat) : Env := { P := Tryz.prog, ty := tyOf, Φ := (Φ107 L N), inl := inlT, live := lives, liveX := livesX, L := L, dp := none, prom := promT, heal := healT, ren := renT }
noncomputable def f71_1.c0 : Code := loopAt 0 (codeOf Tryz.f71)
theorem f71_1.s0_eq {R : Type} (L N : Nat) (κ : Ex → T → H → Option R) (rec : T → H → Option R) (s0 : LI) (s1 : LM) (s2 : Int) (s3 : Int) (s4 : LM) :
    evRd (E71_1 L N) (evCallI (E71_1 L N) 0 1000) 1000 71 34 0 f71_1.c0 κ rec (f71_1.T0 s0 s1 s2 s3 s4) (f71_1.H0 s0 s1 s2 s3 s4)
    = f71_1.s0 L N (fun z5 => κ (.exit 0) (f71_1.T0_e0 z5) (f71_1.H0_e0 z5)) (fun s0 s1 s2 s3 s4 => rec (f71_1.T0 s0 s1 s2 s3 s4) (f71_1.H0 s0 s1 s2 s3 s4)) s0 s1 s2 s3 s4 := by kernel_rfl
theorem f71_1.l0_eq {R : Type} (L N : Nat) (κ : Ex → T → H → Option R) : ∀ (n : Nat) (s0 : LI) (s1 : LM) (s2 : Int) (s3 : Int) (s4 : LM),
    evLp (E71_1 L N) (evCallI (E71_1 L N) 0 1000) 1000 71 34 0 f71_1.c0 κ n (f71_1.T0 s0 s1 s2 s3 s4) (f71_1.H0 s0 s1 s2 s3 s4)
    = f71_1.l0 L N (fun z5 => κ (.exit 0) (f71_1.T0_e0 z5) (f71_1.H0_e0 z5)) n s0 s1 s2 s3 s4 := by
  intro n
  induction n with
  | zero => intros; rfl
  | succ n ih =>
    intro s0 s1 s2 s3 s4
    rw [evLp_succ, f71_1.s0_eq]
    simp only [ih]
    rfl
theorem f71_1.p0_e0_eq {R : Type} (L N : Nat) (κ : AV → Option R) (z5 : LM) :
    (contAt (E71_1 L N) (evCallI (E71_1 L N) 0 1000) 1000 71 34 0 (codeOf Tryz.f71) (finK (E71_1 L N) 1000 Tryz.f71 (finC (.one (.sl (.st 0))) κ))) (.exit 0) (f71_1.T0_e0 z5) (f71_1.H0_e0 z5)
    = f71_1.p0_e0 L N (fun a0 => κ (.tv (.sl (.st 0)) a0)) z5 := by kernel_rfl
theorem f71_1.b_eq {R : Type} (L N : Nat) (κ : AV → Option R) (x0 : LI) (x1 : Int) (x2 : LLM) :
    evBody (E71_1 L N) (evCallI (E71_1 L N) 0 1000) 1000 71 Tryz.f71 [(.tv (.sl i64) x0), (.tv i64 x1), (.imp (.sl (.sl (.st 0))) x2 0)] [] [] (finC (.one (.sl (.st 0))) κ)
    = f71_1.b L N (fun a0 => κ (.tv (.sl (.st 0)) a0)) x0 x1 x2 := by
  refine Eq.trans (b := f71_1.b' L N (fun a0 => κ (.tv (.sl (.st 0)) a0)) (fun s0 s1 s2 s3 s4 => evLp (E71_1 L N) (evCallI (E71_1 L N) 0 1000) 1000 71 34 0 f71_1.c0 (contAt (E71_1 L N) (evCallI (E71_1 L N) 0 1000) 1000 71 34 0 (codeOf Tryz.f71) (finK (E71_1 L N) 1000 Tryz.f71 (finC (.one (.sl (.st 0))) κ))) L (f71_1.T0 s0 s1 s2 s3 s4) (f71_1.H0 s0 s1 s2 s3 s4)) x0 x1 x2) (by kernel_rfl) ?_
  unfold f71_1.b
  simp only [f71_1.l0_eq, f71_1.p0_e0_eq]
theorem f71_1.ok (L N : Nat) (hΦ : TellsOk Tryz.prog ((Φ107 L N))) : EntOkO Tryz.prog 71 (f71_1.ent L N) := by
  intro args vw site h a ha
  unfold f71_1.ent at ha
  split at ha
  · rename_i d u hd
    obtain rfl := Option.some.inj ha
    intro y hy hs
    refine call_dof (dep := 1000) (E := (E71_1 L N)) (rs := (.one (.sl (.st 0)))) (κ := unR (.one (.sl (.st 0)))) (sound_of hΦ) okP (callI_sound (sound_of hΦ) okP 0 1000) (f := Tryz.f71) rfl hs hd ?_ (fun _ h => unR_some h) site
    exact (f71_1.b_eq L N (unR (.one (.sl (.st 0)))) d.1 d.2.1 d.2.2.1).trans (Eq.trans (b := f71_1.b L N some d.1 d.2.1 d.2.2.1) (by kernel_rfl) hy)
  · cases ha
def Φ71_1 (L N : Nat) : Tells := (addO (Φ107 L N) 71 (f71_1.ent L N))
theorem Φ71_1_ok (L N : Nat) : TellsOk Tryz.prog (Φ71_1 L N) := addO_ok (Φ107_ok L N) (f71_1.ok L N (Φ107_ok L N))
def f87_1.b' {R : Type} (L N : Nat) (k : LM → Option R) (x0 : Int) (x1 : LLM) (x2 : LI) : Option R :=
  (f71_1 L N x2 x0 x1).bind fun y0 =>
  k y0
def f87_1.b {R : Type} (L N : Nat) (k : LM → Option R) (x0 : Int) (x1 : LLM) (x2 : LI) : Option R :=
  f87_1.b' L N k x0 x1 x2
def f87_1 (L N : Nat) (x0 : Int) (x1 : LLM) (x2 : LI) : Option (LM) := f87_1.b L N some x0 x1 x2
def f87_1.ent (L N : Nat) (args : List AV) (vw : View) (site : Nat) : Option Ans := match shsC [(.dat i64), (.pfn 71 [(.imp (.sl (.sl (.st 0))) 0)]), (.imp (.sl i64) 0)] vw args with
  | some (d, u) => some ⟨LM, f87_1 L N d.1 d.2.1.1 d.2.2.1, fun y => ((.tv (.sl (.st 0)) y), u, [])⟩
  | none => none
noncomputable def E87_1 (L N : Nat) : Env := { P := Tryz.prog, ty := tyOf, Φ := (Φ71_1 L N), inl := inlT, live := lives, liveX := livesX, L := L, dp := none, prom := promT, heal := healT, ren := renT }
theorem f87_1.b_eq {R : Type} (L N : Nat) (κ : AV → Option R) (x0 : Int) (x1 : LLM) (x2 : LI) :
    evBody (E87_1 L N) (evCallI (E87_1 L N) 0 1000) 1000 87 Tryz.f87 [(.tv i64 x0), (.imf 71 [(.imp (.sl (.sl (.st 0))) x1 0)]), (.imp (.sl i64) x2 0)] [] [] (finC (.one (.sl (.st 0))) κ)
    = f87_1.b L N (fun a0 => κ (.tv (.sl (.st 0)) a0)) x0 x1 x2 := by kernel_rfl
theorem f87_1.ok (L N : Nat) (hΦ : TellsOk Tryz.prog ((Φ71_1 L N))) : EntOkO Tryz.prog 87 (f87_1.ent L N) := by
  intro args vw site h a ha
  unfold f87_1.ent at ha
  split at ha
  · rename_i d u hd
    obtain rfl := Option.some.inj ha
    intro y hy hs
    refine call_dof (dep := 1000) (E := (E87_1 L N)) (rs := (.one (.sl (.st 0)))) (κ := unR (.one (.sl (.st 0)))) (sound_of hΦ) okP (callI_sound (sound_of hΦ) okP 0 1000) (f := Tryz.f87) rfl hs hd ?_ (fun _ h => unR_some h) site
    exact (f87_1.b_eq L N (unR (.one (.sl (.st 0)))) d.1 d.2.1.1 d.2.2.1).trans (Eq.trans (b := f87_1.b L N some d.1 d.2.1.1 d.2.2.1) (by kernel_rfl) hy)
  · cases ha
def Φ87_1 (L N : Nat) : Tells := (addO (Φ71_1 L N) 87 (f87_1.ent L N))
theorem Φ87_1_ok (L N : Nat) : TellsOk Tryz.prog (Φ87_1 L N) := addO_ok (Φ71_1_ok L N) (f87_1.ok L N (Φ71_1_ok L N))
def f86_1.j0' {R : Type} (L N : Nat) (k1_e2 : LI → LLM → LI → Int → Int → LI → LLM → Option R) (rec1 : LI → LLM → LI → Int → Int → Int → Int → LI → LLM → Option R) (v26 : LI) (v27 : LLM) (v28 : LI) (v29 : Int) (v30 : Int) (v31 : Int) (v32 : Int) (v33 : Bool) (v34 : LI) (v35 : LLM) : Option R :=
  bif v33 then
    bif (decide (0 ≤ v29) && decide (v29 < (v34.length : Int))) then
      k1_e2 v26 v27 v28 v31 v32 (v34.set v29.toNat v30) v35
    else none
  else rec1 v26 v27 v28 v29 (wi (v30 + (1 : Int))) v31 v32 v34 v35
def f86_1.s1' {R : Type} (L N : Nat) (k1_e2 : LI → LLM → LI → Int → Int → LI → LLM → Option R) (rec1 : LI → LLM → LI → Int → Int → Int → Int → LI → LLM → Option R) (s9 : LI) (s10 : LLM) (s11 : LI) (s12 : Int) (s13 : Int) (s14 : Int) (s15 : Int) (s16 : LI) (s17 : LLM) : Option R :=
  bif (decide (s13 < s12)) then
    bif (decide (0 ≤ s13) && decide (s13 < (s9.length : Int))) then
      bif (decide (0 ≤ s12) && decide (s12 < (s9.length : Int))) then
        bif ((listAt s9 (0 : Int) s13.toNat) == (listAt s9 (0 : Int) s12.toNat)) then
          bif (decide (0 ≤ s13) && decide (s13 < (s17.length : Int))) then
            bif (decide (0 ≤ s12) && decide (s12 < (s17.length : Int))) then
              (f107 L N (listAt s17 [] s13.toNat) (listAt s17 [] s12.toNat)).bind fun y25 =>
              f86_1.j0' L N k1_e2 rec1 s9 s10 s11 s12 s13 s14 s15 y25 s16 s17
            else none
          else none
        else f86_1.j0' L N k1_e2 rec1 s9 s10 s11 s12 s13 s14 s15 false s16 s17
      else none
    else none
  else k1_e2 s9 s10 s11 s14 s15 s16 s17
def f86_1.s1 {R : Type} (L N : Nat) (k1_e2 : LI → LLM → LI → Int → Int → LI → LLM → Option R) (rec1 : LI → LLM → LI → Int → Int → Int → Int → LI → LLM → Option R) (s9 : LI) (s10 : LLM) (s11 : LI) (s12 : Int) (s13 : Int) (s14 : Int) (s15 : Int) (s16 : LI) (s17 : LLM) : Option R :=
  f86_1.s1' L N k1_e2 rec1 s9 s10 s11 s12 s13 s14 s15 s16 s17
def f86_1.l1 {R : Type} (L N : Nat) (k1_e2 : LI → LLM → LI → Int → Int → LI → LLM → Option R) : Nat → LI → LLM → LI → Int → Int → Int → Int → LI → LLM → Option R
  | 0, _, _, _, _, _, _, _, _, _ => none
  | n + 1, s9, s10, s11, s12, s13, s14, s15, s16, s17 => f86_1.s1 L N k1_e2 (f86_1.l1 L N k1_e2 n) s9 s10 s11 s12 s13 s14 s15 s16 s17
def f86_1.T1 (s9 : LI) (s10 : LLM) (s11 : LI) (s12 : Int) (s13 : Int) (s14 : Int) (s15 : Int) (s16 : LI) (s17 : LLM) : T := mkT 61 [(0, (.tv (.sl i64) s9)), (1, (.fn 87 [(.imf 71 [(.imp (.sl (.sl (.st 0))) s10 0)]), (.imp (.sl i64) s11 0)])), (5, (.row 1011)), (6, (.row 1014)), (7, (.tv i64 s12)), (8, (.tv i64 s13)), (16, (.tv i64 s14)), (17, (.tv i64 s15))]
def f86_1.H1 (s9 : LI) (s10 : LLM) (s11 : LI) (s12 : Int) (s13 : Int) (s14 : Int) (s15 : Int) (s16 : LI) (s17 : LLM) : H := [(1011, (.row 3 i64 s16)), (1014, (.row 48 (.sl (.st 0)) s17))]
def f86_1.T1_e2 (z18 : LI) (z19 : LLM) (z20 : LI) (z21 : Int) (z22 : Int) (z23 : LI) (z24 : LLM) : T := mkT 61 [(0, (.tv (.sl i64) z18)), (1, (.fn 87 [(.imf 71 [(.imp (.sl (.sl (.st 0))) z19 0)]), (.imp (.sl i64) z20 0)])), (5, (.row 1011)), (6, (.row 1014)), (16, (.tv i64 z21)), (17, (.tv i64 z22))]
def f86_1.H1_e2 (z18 : LI) (z19 : LLM) (z20 : LI) (z21 : Int) (z22 : Int) (z23 : LI) (z24 : LLM) : H := [(1011, (.row 3 i64 z23)), (1014, (.row 48 (.sl (.st 0)) z24))]
def f86_1.p1_e2' {R : Type} (L N : Nat) (k0_e0 : LI → Option R) (rec0 : LI → LLM → LI → Int → Int → LI → LLM → Option R) (z18 : LI) (z19 : LLM) (z20 : LI) (z21 : Int) (z22 : Int) (z23 : LI) (z24 : LLM) : Option R :=
  rec0 z18 z19 z20 z21 (wi (z22 + (1 : Int))) z23 z24
def f86_1.p1_e2 {R : Type} (L N : Nat) (k0_e0 : LI → Option R) (rec0 : LI → LLM → LI → Int → Int → LI → LLM → Option R) (z18 : LI) (z19 : LLM) (z20 : LI) (z21 : Int) (z22 : Int) (z23 : LI) (z24 : LLM) : Option R :=
  f86_1.p1_e2' L N k0_e0 rec0 z18 z19 z20 z21 z22 z23 z24
def f86_1.s0' {R : Type} (L N : Nat) (k0_e0 : LI → Option R) (rec0 : LI → LLM → LI → Int → Int → LI → LLM → Option R) (w1 : LI → LLM → LI → Int → Int → Int → Int → LI → LLM → Option R) (s0 : LI) (s1 : LLM) (s2 : LI) (s3 : Int) (s4 : Int) (s5 : LI) (s6 : LLM) : Option R :=
  bif (decide (s4 < s3)) then
    (f87_1 L N s4 s1 s2).bind fun y8 =>
    bif (decide (0 ≤ s4) && decide (s4 < (s6.length : Int))) then
      bif (decide (0 ≤ s4) && decide (s4 < (s5.length : Int))) then
        w1 s0 s1 s2 s4 (0 : Int) s3 s4 (s5.set s4.toNat s4) (s6.set s4.toNat y8)
      else none
    else none
  else k0_e0 s5
def f86_1.s0 {R : Type} (L N : Nat) (k0_e0 : LI → Option R) (rec0 : LI → LLM → LI → Int → Int → LI → LLM → Option R) (s0 : LI) (s1 : LLM) (s2 : LI) (s3 : Int) (s4 : Int) (s5 : LI) (s6 : LLM) : Option R :=
  f86_1.s0' L N k0_e0 rec0 (fun s9 s10 s11 s12 s13 s14 s15 s16 s17 => f86_1.l1 L N (fun z18 z19 z20 z21 z22 z23 z24 => f86_1.p1_e2 L N k0_e0 rec0 z18 z19 z20 z21 z22 z23 z24) L s9 s10 s11 s12 s13 s14 s15 s16 s17) s0 s1 s2 s3 s4 s5 s6
def f86_1.l0 {R : Type} (L N : Nat) (k0_e0 : LI → Option R) : Nat → LI → LLM → LI → Int → Int → LI → LLM → Option R
  | 0, _, _, _, _, _, _, _ => none
  | n + 1, s0, s1, s2, s3, s4, s5, s6 => f86_1.s0 L N k0_e0 (f86_1.l0 L N k0_e0 n) s0 s1 s2 s3 s4 s5 s6
def f86_1.T0 (s0 : LI) (s1 : LLM) (s2 : LI) (s3 : Int) (s4 : Int) (s5 : LI) (s6 : LLM) : T := mkT 61 [(0, (.tv (.sl i64) s0)), (1, (.fn 87 [(.imf 71 [(.imp (.sl (.sl (.st 0))) s1 0)]), (.imp (.sl i64) s2 0)])), (5, (.row 1011)), (6, (.row 1014)), (16, (.tv i64 s3)), (17, (.tv i64 s4))]
def f86_1.H0 (s0 : LI) (s1 : LLM) (s2 : LI) (s3 : Int) (s4 : Int) (s5 : LI) (s6 : LLM) : H := [(1011, (.row 3 i64 s5)), (1014, (.row 48 (.sl (.st 0)) s6))]
def f86_1.T0_e0 (z7 : LI) : T := mkT 61 [(5, (.row 1011))]
def f86_1.H0_e0 (z7 : LI) : H := [(1011, (.row 3 i64 z7))]
def f86_1.p0_e0' {R : Type} (L N : Nat) (k : LI → Option R) (z7 : LI) : Option R :=
  k z7
def f86_1.p0_e0 {R : Type} (L N : Nat) (k : LI → Option R) (z7 : LI) : Option R :=
  f86_1.p0_e0' L N k z7
def f86_1.b' {R : Type} (L N : Nat) (k : LI → Option R) (w0 : LI → LLM → LI → Int → Int → LI → LLM → Option R) (x0 : LI) (x1 : LLM) (x2 : LI) : Option R :=
  bif (decide (0 ≤ (x0.length : Int)) && decide ((x0.length : Int) ≤ (lim : Int))) then
    bif (decide (0 ≤ (x0.length : Int)) && decide ((x0.length : Int) ≤ (lim : Int))) then
      w0 x0 x1 x2 (x0.length : Int) (0 : Int) (List.replicate (x0.length : Int).toNat (0 : Int)) (List.replicate (x0.length : Int).toNat [])
    else none
  else none
def f86_1.b {R : Type} (L N : Nat) (k : LI → Option R) (x0 : LI) (x1 : LLM) (x2 : LI) : Option R :=
  f86_1.b' L N k (fun s0 s1 s2 s3 s4 s5 s6 => f86_1.l0 L N (fun z7 => f86_1.p0_e0 L N k z7) L s0 s1 s2 s3 s4 s5 s6) x0 x1 x2
def f86_1 (L N : Nat) (x0 : LI) (x1 : LLM) (x2 : LI) : Option (LI) := f86_1.b L N some x0 x1 x2
def f86_1.ent (L N : Nat) (args : List AV) (vw : View) (site : Nat) : Option Ans := match shD [(.dat (.sl i64)), (.fn 87 [(.pfn 71 [(.imp (.sl (.sl (.st 0))) 0)]), (.imp (.sl i64) 0)])] vw args with
  | some d => some ⟨LI, f86_1 L N d.1 d.2.1.1.1 d.2.1.2.1, fun y => (RN.av site .row (), [(site, some (mkO none 3 i64 y))], [])⟩
  | none => none
noncomputable def E86_1 (L N : Nat) : Env := { P := Tryz.prog, ty := tyOf, Φ := (Φ87_1 L N), inl := inlT, live := lives, liveX := livesX, L := L, dp := none, prom := promT, heal := healT, ren := renT }
noncomputable def f86_1.c0 : Code := loopAt 0 (codeOf Tryz.f86)
noncomputable def f86_1.c1 : Code := loopAt 2 f86_1.c0
theorem f86_1.s1_eq {R : Type} (L N : Nat) (κ : Ex → T → H → Option R) (rec : T → H → Option R) (s9 : LI) (s10 : LLM) (s11 : LI) (s12 : Int) (s13 : Int) (s14 : Int) (s15 : Int) (s16 : LI) (s17 : LLM) :
    evRd (E86_1 L N) (evCallI (E86_1 L N) 0 1000) 1000 86 61 2 f86_1.c1 κ rec (f86_1.T1 s9 s10 s11 s12 s13 s14 s15 s16 s17) (f86_1.H1 s9 s10 s11 s12 s13 s14 s15 s16 s17)
    = f86_1.s1 L N (fun z18 z19 z20 z21 z22 z23 z24 => κ (.exit 2) (f86_1.T1_e2 z18 z19 z20 z21 z22 z23 z24) (f86_1.H1_e2 z18 z19 z20 z21 z22 z23 z24)) (fun s9 s10 s11 s12 s13 s14 s15 s16 s17 => rec (f86_1.T1 s9 s10 s11 s12 s13 s14 s15 s16 s17) (f86_1.H1 s9 s10 s11 s12 s13 s14 s15 s16 s17)) s9 s10 s11 s12 s13 s14 s15 s16 s17 := by kernel_rfl
theorem f86_1.l1_eq {R : Type} (L N : Nat) (κ : Ex → T → H → Option R) : ∀ (n : Nat) (s9 : LI) (s10 : LLM) (s11 : LI) (s12 : Int) (s13 : Int) (s14 : Int) (s15 : Int) (s16 : LI) (s17 : LLM),
    evLp (E86_1 L N) (evCallI (E86_1 L N) 0 1000) 1000 86 61 2 f86_1.c1 κ n (f86_1.T1 s9 s10 s11 s12 s13 s14 s15 s16 s17) (f86_1.H1 s9 s10 s11 s12 s13 s14 s15 s16 s17)
    = f86_1.l1 L N (fun z18 z19 z20 z21 z22 z23 z24 => κ (.exit 2) (f86_1.T1_e2 z18 z19 z20 z21 z22 z23 z24) (f86_1.H1_e2 z18 z19 z20 z21 z22 z23 z24)) n s9 s10 s11 s12 s13 s14 s15 s16 s17 := by
  intro n
  induction n with
  | zero => intros; rfl
  | succ n ih =>
    intro s9 s10 s11 s12 s13 s14 s15 s16 s17
    rw [evLp_succ, f86_1.s1_eq]
    simp only [ih]
    rfl
theorem f86_1.p1_e2_eq {R : Type} (L N : Nat) (κ : Ex → T → H → Option R) (rec : T → H → Option R) (z18 : LI) (z19 : LLM) (z20 : LI) (z21 : Int) (z22 : Int) (z23 : LI) (z24 : LLM) :
    (contAt (E86_1 L N) (evCallI (E86_1 L N) 0 1000) 1000 86 61 2 f86_1.c0 (rdK (E86_1 L N) 1000 86 61 0 κ rec)) (.exit 2) (f86_1.T1_e2 z18 z19 z20 z21 z22 z23 z24) (f86_1.H1_e2 z18 z19 z20 z21 z22 z23 z24)
    = f86_1.p1_e2 L N (fun z7 => κ (.exit 0) (f86_1.T0_e0 z7) (f86_1.H0_e0 z7)) (fun s0 s1 s2 s3 s4 s5 s6 => rec (f86_1.T0 s0 s1 s2 s3 s4 s5 s6) (f86_1.H0 s0 s1 s2 s3 s4 s5 s6)) z18 z19 z20 z21 z22 z23 z24 := by kernel_rfl
theorem f86_1.s0_eq {R : Type} (L N : Nat) (κ : Ex → T → H → Option R) (rec : T → H → Option R) (s0 : LI) (s1 : LLM) (s2 : LI) (s3 : Int) (s4 : Int) (s5 : LI) (s6 : LLM) :
    evRd (E86_1 L N) (evCallI (E86_1 L N) 0 1000) 1000 86 61 0 f86_1.c0 κ rec (f86_1.T0 s0 s1 s2 s3 s4 s5 s6) (f86_1.H0 s0 s1 s2 s3 s4 s5 s6)
    = f86_1.s0 L N (fun z7 => κ (.exit 0) (f86_1.T0_e0 z7) (f86_1.H0_e0 z7)) (fun s0 s1 s2 s3 s4 s5 s6 => rec (f86_1.T0 s0 s1 s2 s3 s4 s5 s6) (f86_1.H0 s0 s1 s2 s3 s4 s5 s6)) s0 s1 s2 s3 s4 s5 s6 := by
  refine Eq.trans (b := f86_1.s0' L N (fun z7 => κ (.exit 0) (f86_1.T0_e0 z7) (f86_1.H0_e0 z7)) (fun s0 s1 s2 s3 s4 s5 s6 => rec (f86_1.T0 s0 s1 s2 s3 s4 s5 s6) (f86_1.H0 s0 s1 s2 s3 s4 s5 s6)) (fun s9 s10 s11 s12 s13 s14 s15 s16 s17 => evLp (E86_1 L N) (evCallI (E86_1 L N) 0 1000) 1000 86 61 2 f86_1.c1 (contAt (E86_1 L N) (evCallI (E86_1 L N) 0 1000) 1000 86 61 2 f86_1.c0 (rdK (E86_1 L N) 1000 86 61 0 κ rec)) L (f86_1.T1 s9 s10 s11 s12 s13 s14 s15 s16 s17) (f86_1.H1 s9 s10 s11 s12 s13 s14 s15 s16 s17)) s0 s1 s2 s3 s4 s5 s6) (by kernel_rfl) ?_
  unfold f86_1.s0
  simp only [f86_1.l1_eq, f86_1.p1_e2_eq]
theorem f86_1.l0_eq {R : Type} (L N : Nat) (κ : Ex → T → H → Option R) : ∀ (n : Nat) (s0 : LI) (s1 : LLM) (s2 : LI) (s3 : Int) (s4 : Int) (s5 : LI) (s6 : LLM),
    evLp (E86_1 L N) (evCallI (E86_1 L N) 0 1000) 1000 86 61 0 f86_1.c0 κ n (f86_1.T0 s0 s1 s2 s3 s4 s5 s6) (f86_1.H0 s0 s1 s2 s3 s4 s5 s6)
    = f86_1.l0 L N (fun z7 => κ (.exit 0) (f86_1.T0_e0 z7) (f86_1.H0_e0 z7)) n s0 s1 s2 s3 s4 s5 s6 := by
  intro n
  induction n with
  | zero => intros; rfl
  | succ n ih =>
    intro s0 s1 s2 s3 s4 s5 s6
    rw [evLp_succ, f86_1.s0_eq]
    simp only [ih]
    rfl
theorem f86_1.p0_e0_eq {R : Type} (L N : Nat) (κ : RN.Den .row → List Int → Option R) (z7 : LI) :
    (contAt (E86_1 L N) (evCallI (E86_1 L N) 0 1000) 1000 86 61 0 (codeOf Tryz.f86) (finK (E86_1 L N) 1000 Tryz.f86 (finN .row none 3 i64 κ))) (.exit 0) (f86_1.T0_e0 z7) (f86_1.H0_e0 z7)
    = f86_1.p0_e0 L N (fun a0 => κ () a0) z7 := by kernel_rfl
theorem f86_1.b_eq {R : Type} (L N : Nat) (κ : RN.Den .row → List Int → Option R) (x0 : LI) (x1 : LLM) (x2 : LI) :
    evBody (E86_1 L N) (evCallI (E86_1 L N) 0 1000) 1000 86 Tryz.f86 [(.tv (.sl i64) x0), (.fn 87 [(.imf 71 [(.imp (.sl (.sl (.st 0))) x1 0)]), (.imp (.sl i64) x2 0)])] [] [] (finN .row none 3 i64 κ)
    = f86_1.b L N (fun a0 => κ () a0) x0 x1 x2 := by
  refine Eq.trans (b := f86_1.b' L N (fun a0 => κ () a0) (fun s0 s1 s2 s3 s4 s5 s6 => evLp (E86_1 L N) (evCallI (E86_1 L N) 0 1000) 1000 86 61 0 f86_1.c0 (contAt (E86_1 L N) (evCallI (E86_1 L N) 0 1000) 1000 86 61 0 (codeOf Tryz.f86) (finK (E86_1 L N) 1000 Tryz.f86 (finN .row none 3 i64 κ))) L (f86_1.T0 s0 s1 s2 s3 s4 s5 s6) (f86_1.H0 s0 s1 s2 s3 s4 s5 s6)) x0 x1 x2) (by kernel_rfl) ?_
  unfold f86_1.b
  simp only [f86_1.l0_eq, f86_1.p0_e0_eq]
theorem f86_1.ok (L N : Nat) (hΦ : TellsOk Tryz.prog ((Φ87_1 L N))) : EntOkO Tryz.prog 86 (f86_1.ent L N) := by
  intro args vw site h a ha
  unfold f86_1.ent at ha
  split at ha
  · rename_i d hd
    obtain rfl := Option.some.inj ha
    intro y hy hs
    refine call_ronF (y := y) (dep := 1000) (E := (E86_1 L N)) (rn := .row) (q := none) (el := 3) (ty := i64) (d1 := ()) (xs := y) (κ := (fun d xs => some xs)) (sound_of hΦ) okP (callI_sound (sound_of hΦ) okP 0 1000) (f := Tryz.f86) rfl hs hd ?_ (fun _ _ h => by obtain rfl := Option.some.inj h; exact ⟨rfl, rfl⟩) rfl site
    exact (f86_1.b_eq L N (fun d xs => some xs) d.1 d.2.1.1.1 d.2.1.2.1).trans (Eq.trans (b := f86_1.b L N some d.1 d.2.1.1.1 d.2.1.2.1) (by kernel_rfl) hy)
  · cases ha
def Φ86_1 (L N : Nat) : Tells := (addO (Φ87_1 L N) 86 (f86_1.ent L N))
theorem Φ86_1_ok (L N : Nat) : TellsOk Tryz.prog (Φ86_1 L N) := addO_ok (Φ87_1_ok L N) (f86_1.ok L N (Φ87_1_ok L N))
def f70_1.s0' {R : Type} (L N : Nat) (k0_r : LLI → Option R) (rec0 : LLM → LLI → Option R) (s0 : LLM) (s1 : LLI) : Option R :=
  bif (decide (0 ≤ (wi ((s1.length : Int) - (1 : Int)))) && decide ((wi ((s1.length : Int) - (1 : Int))) < (s1.length : Int))) then
    (f86_1 L N (listAt s1 [] (wi ((s1.length : Int) - (1 : Int))).toNat) s0 (listAt s1 [] (wi ((s1.length : Int) - (1 : Int))).toNat)).bind fun y2 =>
    (f88 L N y2 (listAt s1 [] (wi ((s1.length : Int) - (1 : Int))).toNat)).bind fun y3 =>
    bif y3 then
      k0_r s1
    else bif (decide (s1.length + ([y2] : LLI).length ≤ lim)) then
      rec0 s0 (s1 ++ ([y2] : LLI))
    else none
  else none
def f70_1.s0 {R : Type} (L N : Nat) (k0_r : LLI → Option R) (rec0 : LLM → LLI → Option R) (s0 : LLM) (s1 : LLI) : Option R :=
  f70_1.s0' L N k0_r rec0 s0 s1
def f70_1.l0 {R : Type} (L N : Nat) (k0_r : LLI → Option R) : Nat → LLM → LLI → Option R
  | 0, _, _ => none
  | n + 1, s0, s1 => f70_1.s0 L N k0_r (f70_1.l0 L N k0_r n) s0 s1
def f70_1.T0 (s0 : LLM) (s1 : LLI) : T := mkT 28 [(3, (.ptr 1003 0)), (5, (.row 1010))]
def f70_1.H0 (s0 : LLM) (s1 : LLI) : H := [(1003, (.box [(.fn 71 [(.imp (.sl (.sl (.st 0))) s0 0)])])), (1010, (.row 26 (.sl i64) s1))]
def f70_1.T0_r (z4 : LLI) : T := mkT 28 [(4, (.row 1010))]
def f70_1.H0_r (z4 : LLI) : H := [(1010, (.row 26 (.sl i64) z4))]
def f70_1.p0_r' {R : Type} (L N : Nat) (k : LLI → Option R) (z4 : LLI) : Option R :=
  k z4
def f70_1.p0_r {R : Type} (L N : Nat) (k : LLI → Option R) (z4 : LLI) : Option R :=
  f70_1.p0_r' L N k z4
def f70_1.b' {R : Type} (L N : Nat) (k : LLI → Option R) (w0 : LLM → LLI → Option R) (x0 : Int) (x1 : LLM) : Option R :=
  bif (decide (0 ≤ x0) && decide (x0 ≤ (lim : Int))) then
    w0 x1 ([(List.replicate x0.toNat (0 : Int))] : LLI)
  else none
def f70_1.b {R : Type} (L N : Nat) (k : LLI → Option R) (x0 : Int) (x1 : LLM) : Option R :=
  f70_1.b' L N k (fun s0 s1 => f70_1.l0 L N (fun z4 => f70_1.p0_r L N k z4) L s0 s1) x0 x1
def f70_1 (L N : Nat) (x0 : Int) (x1 : LLM) : Option (LLI) := f70_1.b L N some x0 x1
def f70_1.ent (L N : Nat) (args : List AV) (vw : View) (site : Nat) : Option Ans := match shsC [(.dat i64), (.fn 71 [(.imp (.sl (.sl (.st 0))) 0)])] vw args with
  | some (d, u) => some ⟨LLI, f70_1 L N d.1 d.2.1.1, fun y => ((.tv (.sl (.sl i64)) y), u, [])⟩
  | none => none
noncomputable def E70_1 (L N : Nat) : Env := { P := Tryz.prog, ty := tyOf, Φ := (Φ86_1 L N), inl := inlT, live := lives, liveX := livesX, L := L, dp := none, prom := promT, heal := healT, ren := renT }
noncomputable def f70_1.c0 : Code := loopAt 0 (codeOf Tryz.f70)
theorem f70_1.s0_eq {R : Type} (L N : Nat) (κ : Ex → T → H → Option R) (rec : T → H → Option R) (s0 : LLM) (s1 : LLI) :
    evRd (E70_1 L N) (evCallI (E70_1 L N) 0 1000) 1000 70 28 0 f70_1.c0 κ rec (f70_1.T0 s0 s1) (f70_1.H0 s0 s1)
    = f70_1.s0 L N (fun z4 => κ .ret (f70_1.T0_r z4) (f70_1.H0_r z4)) (fun s0 s1 => rec (f70_1.T0 s0 s1) (f70_1.H0 s0 s1)) s0 s1 := by kernel_rfl
theorem f70_1.l0_eq {R : Type} (L N : Nat) (κ : Ex → T → H → Option R) : ∀ (n : Nat) (s0 : LLM) (s1 : LLI),
    evLp (E70_1 L N) (evCallI (E70_1 L N) 0 1000) 1000 70 28 0 f70_1.c0 κ n (f70_1.T0 s0 s1) (f70_1.H0 s0 s1)
    = f70_1.l0 L N (fun z4 => κ .ret (f70_1.T0_r z4) (f70_1.H0_r z4)) n s0 s1 := by
  intro n
  induction n with
  | zero => intros; rfl
  | succ n ih =>
    intro s0 s1
    rw [evLp_succ, f70_1.s0_eq]
    simp only [ih]
    rfl
theorem f70_1.p0_r_eq {R : Type} (L N : Nat) (κ : AV → Option R) (z4 : LLI) :
    (contAt (E70_1 L N) (evCallI (E70_1 L N) 0 1000) 1000 70 28 0 (codeOf Tryz.f70) (finK (E70_1 L N) 1000 Tryz.f70 (finC (.one (.sl (.sl i64))) κ))) .ret (f70_1.T0_r z4) (f70_1.H0_r z4)
    = f70_1.p0_r L N (fun a0 => κ (.tv (.sl (.sl i64)) a0)) z4 := by kernel_rfl
theorem f70_1.b_eq {R : Type} (L N : Nat) (κ : AV → Option R) (x0 : Int) (x1 : LLM) :
    evBody (E70_1 L N) (evCallI (E70_1 L N) 0 1000) 1000 70 Tryz.f70 [(.tv i64 x0), (.fn 71 [(.imp (.sl (.sl (.st 0))) x1 0)])] [] [] (finC (.one (.sl (.sl i64))) κ)
    = f70_1.b L N (fun a0 => κ (.tv (.sl (.sl i64)) a0)) x0 x1 := by
  refine Eq.trans (b := f70_1.b' L N (fun a0 => κ (.tv (.sl (.sl i64)) a0)) (fun s0 s1 => evLp (E70_1 L N) (evCallI (E70_1 L N) 0 1000) 1000 70 28 0 f70_1.c0 (contAt (E70_1 L N) (evCallI (E70_1 L N) 0 1000) 1000 70 28 0 (codeOf Tryz.f70) (finK (E70_1 L N) 1000 Tryz.f70 (finC (.one (.sl (.sl i64))) κ))) L (f70_1.T0 s0 s1) (f70_1.H0 s0 s1)) x0 x1) (by kernel_rfl) ?_
  unfold f70_1.b
  simp only [f70_1.l0_eq, f70_1.p0_r_eq]
theorem f70_1.ok (L N : Nat) (hΦ : TellsOk Tryz.prog ((Φ86_1 L N))) : EntOkO Tryz.prog 70 (f70_1.ent L N) := by
  intro args vw site h a ha
  unfold f70_1.ent at ha
  split at ha
  · rename_i d u hd
    obtain rfl := Option.some.inj ha
    intro y hy hs
    refine call_dof (dep := 1000) (E := (E70_1 L N)) (rs := (.one (.sl (.sl i64)))) (κ := unR (.one (.sl (.sl i64)))) (sound_of hΦ) okP (callI_sound (sound_of hΦ) okP 0 1000) (f := Tryz.f70) rfl hs hd ?_ (fun _ h => unR_some h) site
    exact (f70_1.b_eq L N (unR (.one (.sl (.sl i64)))) d.1 d.2.1.1).trans (Eq.trans (b := f70_1.b L N some d.1 d.2.1.1) (by kernel_rfl) hy)
  · cases ha
def Φ70_1 (L N : Nat) : Tells := (addO (Φ86_1 L N) 70 (f70_1.ent L N))
theorem Φ70_1_ok (L N : Nat) : TellsOk Tryz.prog (Φ70_1 L N) := addO_ok (Φ86_1_ok L N) (f70_1.ok L N (Φ86_1_ok L N))
def f48.b' {R : Type} (L N : Nat) (k : LLI → Option R) (x0 : Graph) : Option R :=
  (f70_1 L N (x0.moves.length : Int) x0.moves).bind fun y0 =>
  k y0
def f48.b {R : Type} (L N : Nat) (k : LLI → Option R) (x0 : Graph) : Option R :=
  f48.b' L N k x0
def f48 (L N : Nat) (x0 : Graph) : Option (LLI) := f48.b L N some x0
def f48.ent (L N : Nat) (args : List AV) (vw : View) (site : Nat) : Ans := match coeD [(.st 2)] vw args with
  | some (d, u) => ⟨LLI, f48 L N d.1, fun y => ((.tv (.sl (.sl i64)) y), u, [])⟩
  | none => Ans.no
noncomputable def E48 (L N : Nat) : Env := { P := Tryz.prog, ty := tyOf, Φ := (Φ70_1 L N), inl := inlT, live := lives, liveX := livesX, L := L, dp := none, prom := promT, heal := healT, ren := renT }
theorem f48.b_eq {R : Type} (L N : Nat) (κ : AV → Option R) (x0 : Graph) :
    evBody (E48 L N) (evCallI (E48 L N) 0 1000) 1000 48 Tryz.f48 [(.tv (.st 2) x0)] [] [] (finC (.one (.sl (.sl i64))) κ)
    = f48.b L N (fun a0 => κ (.tv (.sl (.sl i64)) a0)) x0 := by kernel_rfl
theorem f48.ok (L N : Nat) (hΦ : TellsOk Tryz.prog ((Φ70_1 L N))) : EntOk Tryz.prog 48 (f48.ent L N) := by
  intro args vw site h
  unfold f48.ent
  split
  · rename_i d u ha
    intro y hy hs
    refine call_data (dep := 1000) (E := (E48 L N)) (rs := (.one (.sl (.sl i64)))) (κ := unR (.one (.sl (.sl i64)))) (sound_of hΦ) okP (callI_sound (sound_of hΦ) okP 0 1000) (f := Tryz.f48) rfl hs ha ?_ (fun _ h => unR_some h) site
    exact (f48.b_eq L N (unR (.one (.sl (.sl i64)))) d.1).trans (Eq.trans (b := f48.b L N some d.1) (by kernel_rfl) hy)
  · intro y hy
    cases hy
def Φ48 (L N : Nat) : Tells := (addT (Φ70_1 L N) 48 (f48.ent L N))
theorem Φ48_ok (L N : Nat) : TellsOk Tryz.prog (Φ48 L N) := addT_ok (Φ70_1_ok L N) (f48.ok L N (Φ70_1_ok L N))
def f23.b' {R : Type} (L N : Nat) (k : LI → Option R) (x0 : Graph) : Option R :=
  (f48 L N (Graph.mk x0.moves)).bind fun y0 =>
  bif (decide (0 ≤ (wi ((y0.length : Int) - (1 : Int)))) && decide ((wi ((y0.length : Int) - (1 : Int))) < (y0.length : Int))) then
    ((fclone (listAt y0 [] (wi ((y0.length : Int) - (1 : Int))).toNat))).bind fun y1 =>
    k (listAt y0 [] (wi ((y0.length : Int) - (1 : Int))).toNat)
  else none
def f23.b {R : Type} (L N : Nat) (k : LI → Option R) (x0 : Graph) : Option R :=
  f23.b' L N k x0
def f23 (L N : Nat) (x0 : Graph) : Option (LI) := f23.b L N some x0
def f23.ent (L N : Nat) (args : List AV) (vw : View) (site : Nat) : Ans := match roD [(.st 2)] vw args with
  | some d => ⟨LI, f23 L N d.1, fun y => (RN.av site .row (), [(site, some (mkO none 3 i64 y))], [])⟩
  | none => Ans.no
noncomputable def E23 (L N : Nat) : Env := { P := Tryz.prog, ty := tyOf, Φ := (Φ48 L N), inl := inlT, live := lives, liveX := livesX, L := L, dp := none, prom := promT, heal := healT, ren := renT }
theorem f23.b_eq {R : Type} (L N : Nat) (κ : RN.Den .row → List Int → Option R) (x0 : Graph) :
    evBody (E23 L N) (evCallI (E23 L N) 0 1000) 1000 23 Tryz.f23 [(.tv (.st 2) x0)] [] [] (finN .row none 3 i64 κ)
    = f23.b L N (fun a0 => κ () a0) x0 := by kernel_rfl
theorem f23.ok (L N : Nat) (hΦ : TellsOk Tryz.prog ((Φ48 L N))) : EntOk Tryz.prog 23 (f23.ent L N) := by
  intro args vw site h
  unfold f23.ent
  split
  · rename_i d ha
    intro y hy hs
    refine call_ron (y := y) (dep := 1000) (E := (E23 L N)) (ts := [(.st 2)]) (rn := .row) (q := none) (el := 3) (ty := i64) (d1 := ()) (xs := y) (κ := (fun d xs => some xs)) (sound_of hΦ) okP (callI_sound (sound_of hΦ) okP 0 1000) (f := Tryz.f23) rfl hs ha ?_ (fun _ _ h => by obtain rfl := Option.some.inj h; exact ⟨rfl, rfl⟩) rfl site
    exact (f23.b_eq L N (fun d xs => some xs) d.1).trans (Eq.trans (b := f23.b L N some d.1) (by kernel_rfl) hy)
  · intro y hy
    cases hy
def Φ23 (L N : Nat) : Tells := (addT (Φ48 L N) 23 (f23.ent L N))
theorem Φ23_ok (L N : Nat) : TellsOk Tryz.prog (Φ23 L N) := addT_ok (Φ48_ok L N) (f23.ok L N (Φ48_ok L N))
def f24.s0' {R : Type} (L N : Nat) (k0_e0 : Option R) (k0_r : Int → Option R) (rec0 : LI → Int → Int → Int → Option R) (s0 : LI) (s1 : Int) (s2 : Int) (s3 : Int) : Option R :=
  bif (decide (s3 < s2)) then
    bif (decide (0 ≤ s3) && decide (s3 < (s0.length : Int))) then
      bif (s1 == (listAt s0 (0 : Int) s3.toNat)) then
        k0_r s3
      else rec0 s0 s1 s2 (wi (s3 + (1 : Int)))
    else none
  else k0_e0
def f24.s0 {R : Type} (L N : Nat) (k0_e0 : Option R) (k0_r : Int → Option R) (rec0 : LI → Int → Int → Int → Option R) (s0 : LI) (s1 : Int) (s2 : Int) (s3 : Int) : Option R :=
  f24.s0' L N k0_e0 k0_r rec0 s0 s1 s2 s3
def f24.l0 {R : Type} (L N : Nat) (k0_e0 : Option R) (k0_r : Int → Option R) : Nat → LI → Int → Int → Int → Option R
  | 0, _, _, _, _ => none
  | n + 1, s0, s1, s2, s3 => f24.s0 L N k0_e0 k0_r (f24.l0 L N k0_e0 k0_r n) s0 s1 s2 s3
def f24.T0 (s0 : LI) (s1 : Int) (s2 : Int) (s3 : Int) : T := mkT 19 [(0, (.tv (.sl i64) s0)), (1, (.tv i64 s1)), (7, (.tv i64 s2)), (8, (.tv i64 s3))]
def f24.H0 (s0 : LI) (s1 : Int) (s2 : Int) (s3 : Int) : H := []
def f24.T0_e0 : T := mkT 19 []
def f24.H0_e0 : H := []
def f24.T0_r (z4 : Int) : T := mkT 19 [(4, (.tv i64 z4))]
def f24.H0_r (z4 : Int) : H := []
def f24.p0_e0' {R : Type} (L N : Nat) (k : Int → Option R) : Option R :=
  k (-1 : Int)
def f24.p0_e0 {R : Type} (L N : Nat) (k : Int → Option R) : Option R :=
  f24.p0_e0' L N k
def f24.p0_r' {R : Type} (L N : Nat) (k : Int → Option R) (z4 : Int) : Option R :=
  k z4
def f24.p0_r {R : Type} (L N : Nat) (k : Int → Option R) (z4 : Int) : Option R :=
  f24.p0_r' L N k z4
def f24.b' {R : Type} (L N : Nat) (k : Int → Option R) (w0 : LI → Int → Int → Int → Option R) (x0 : LI) (x1 : Int) : Option R :=
  w0 x0 x1 (x0.length : Int) (0 : Int)
def f24.b {R : Type} (L N : Nat) (k : Int → Option R) (x0 : LI) (x1 : Int) : Option R :=
  f24.b' L N k (fun s0 s1 s2 s3 => f24.l0 L N (f24.p0_e0 L N k) (fun z4 => f24.p0_r L N k z4) L s0 s1 s2 s3) x0 x1
def f24 (L N : Nat) (x0 : LI) (x1 : Int) : Option (Int) := f24.b L N some x0 x1
def f24.ent (L N : Nat) (args : List AV) (vw : View) (site : Nat) : Ans := match roD [(.sl i64), i64] vw args with
  | some d => ⟨Int, f24 L N d.1 d.2.1, fun y => ((.tv i64 y), [], [])⟩
  | none => Ans.no
noncomputable def E24 (L N : Nat) : Env := { P := Tryz.prog, ty := tyOf, Φ := (Φ23 L N), inl := inlT, live := lives, liveX := livesX, L := L, dp := none, prom := promT, heal := healT, ren := renT }
noncomputable def f24.c0 : Code := loopAt 0 (codeOf Tryz.f24)
theorem f24.s0_eq {R : Type} (L N : Nat) (κ : Ex → T → H → Option R) (rec : T → H → Option R) (s0 : LI) (s1 : Int) (s2 : Int) (s3 : Int) :
    evRd (E24 L N) (evCallI (E24 L N) 0 1000) 1000 24 19 0 f24.c0 κ rec (f24.T0 s0 s1 s2 s3) (f24.H0 s0 s1 s2 s3)
    = f24.s0 L N (κ (.exit 0) f24.T0_e0 f24.H0_e0) (fun z4 => κ .ret (f24.T0_r z4) (f24.H0_r z4)) (fun s0 s1 s2 s3 => rec (f24.T0 s0 s1 s2 s3) (f24.H0 s0 s1 s2 s3)) s0 s1 s2 s3 := by kernel_rfl
theorem f24.l0_eq {R : Type} (L N : Nat) (κ : Ex → T → H → Option R) : ∀ (n : Nat) (s0 : LI) (s1 : Int) (s2 : Int) (s3 : Int),
    evLp (E24 L N) (evCallI (E24 L N) 0 1000) 1000 24 19 0 f24.c0 κ n (f24.T0 s0 s1 s2 s3) (f24.H0 s0 s1 s2 s3)
    = f24.l0 L N (κ (.exit 0) f24.T0_e0 f24.H0_e0) (fun z4 => κ .ret (f24.T0_r z4) (f24.H0_r z4)) n s0 s1 s2 s3 := by
  intro n
  induction n with
  | zero => intros; rfl
  | succ n ih =>
    intro s0 s1 s2 s3
    rw [evLp_succ, f24.s0_eq]
    simp only [ih]
    rfl
theorem f24.p0_e0_eq {R : Type} (L N : Nat) (κ : AV → Option R) :
    (contAt (E24 L N) (evCallI (E24 L N) 0 1000) 1000 24 19 0 (codeOf Tryz.f24) (finK (E24 L N) 1000 Tryz.f24 (finC (.one i64) κ))) (.exit 0) f24.T0_e0 f24.H0_e0
    = f24.p0_e0 L N (fun a0 => κ (.tv i64 a0)) := by kernel_rfl
theorem f24.p0_r_eq {R : Type} (L N : Nat) (κ : AV → Option R) (z4 : Int) :
    (contAt (E24 L N) (evCallI (E24 L N) 0 1000) 1000 24 19 0 (codeOf Tryz.f24) (finK (E24 L N) 1000 Tryz.f24 (finC (.one i64) κ))) .ret (f24.T0_r z4) (f24.H0_r z4)
    = f24.p0_r L N (fun a0 => κ (.tv i64 a0)) z4 := by kernel_rfl
theorem f24.b_eq {R : Type} (L N : Nat) (κ : AV → Option R) (x0 : LI) (x1 : Int) :
    evBody (E24 L N) (evCallI (E24 L N) 0 1000) 1000 24 Tryz.f24 [(.tv (.sl i64) x0), (.tv i64 x1)] [] [] (finC (.one i64) κ)
    = f24.b L N (fun a0 => κ (.tv i64 a0)) x0 x1 := by
  refine Eq.trans (b := f24.b' L N (fun a0 => κ (.tv i64 a0)) (fun s0 s1 s2 s3 => evLp (E24 L N) (evCallI (E24 L N) 0 1000) 1000 24 19 0 f24.c0 (contAt (E24 L N) (evCallI (E24 L N) 0 1000) 1000 24 19 0 (codeOf Tryz.f24) (finK (E24 L N) 1000 Tryz.f24 (finC (.one i64) κ))) L (f24.T0 s0 s1 s2 s3) (f24.H0 s0 s1 s2 s3)) x0 x1) (by kernel_rfl) ?_
  unfold f24.b
  simp only [f24.l0_eq, f24.p0_e0_eq, f24.p0_r_eq]
theorem f24.ok (L N : Nat) (hΦ : TellsOk Tryz.prog ((Φ23 L N))) : EntOk Tryz.prog 24 (f24.ent L N) := by
  intro args vw site h
  unfold f24.ent
  split
  · rename_i d ha
    intro y hy hs
    refine call_ro (dep := 1000) (E := (E24 L N)) (rs := (.one i64)) (κ := unR (.one i64)) (sound_of hΦ) okP (callI_sound (sound_of hΦ) okP 0 1000) (f := Tryz.f24) rfl hs ha ?_ (fun _ h => unR_some h) rfl site
    exact (f24.b_eq L N (unR (.one i64)) d.1 d.2.1).trans (Eq.trans (b := f24.b L N some d.1 d.2.1) (by kernel_rfl) hy)
  · intro y hy
    cases hy
def Φ24 (L N : Nat) : Tells := (addT (Φ23 L N) 24 (f24.ent L N))
theorem Φ24_ok (L N : Nat) : TellsOk Tryz.prog (Φ24 L N) := addT_ok (Φ23_ok L N) (f24.ok L N (Φ23_ok L N))
def f9.s0' {R : Type} (L N : Nat) (k0_e0 : LLM → LI → LI → Option R) (rec0 : Int → Int → LLM → LI → LI → Option R) (s2 : Int) (s3 : Int) (s4 : LLM) (s5 : LI) (s6 : LI) : Option R :=
  bif (decide (s3 < s2)) then
    bif (decide (0 ≤ s3) && decide (s3 < (s5.length : Int))) then
      bif (s3 == (listAt s5 (0 : Int) s3.toNat)) then
        bif (decide (s6.length + ([s3] : LI).length ≤ lim)) then
          rec0 s2 (wi (s3 + (1 : Int))) s4 s5 (s6 ++ ([s3] : LI))
        else none
      else rec0 s2 (wi (s3 + (1 : Int))) s4 s5 s6
    else none
  else k0_e0 s4 s5 s6
def f9.s0 {R : Type} (L N : Nat) (k0_e0 : LLM → LI → LI → Option R) (rec0 : Int → Int → LLM → LI → LI → Option R) (s2 : Int) (s3 : Int) (s4 : LLM) (s5 : LI) (s6 : LI) : Option R :=
  f9.s0' L N k0_e0 rec0 s2 s3 s4 s5 s6
def f9.l0 {R : Type} (L N : Nat) (k0_e0 : LLM → LI → LI → Option R) : Nat → Int → Int → LLM → LI → LI → Option R
  | 0, _, _, _, _, _ => none
  | n + 1, s2, s3, s4, s5, s6 => f9.s0 L N k0_e0 (f9.l0 L N k0_e0 n) s2 s3 s4 s5 s6
def f9.T0 (s2 : Int) (s3 : Int) (s4 : LLM) (s5 : LI) (s6 : LI) : T := mkT 77 [(1, (.ptr 1001 0)), (2, (.ptr 1002 0)), (4, (.row 1019)), (5, (.row 1020)), (21, (.row 1019)), (22, (.tv i64 s2)), (23, (.tv i64 s3))]
def f9.H0 (s2 : Int) (s3 : Int) (s4 : LLM) (s5 : LI) (s6 : LI) : H := [(1001, (.box [(.tv (.sl (.sl (.st 0))) s4)])), (1002, (.box [.nil])), (1019, (.row 3 i64 s5)), (1020, (.row 3 i64 s6))]
def f9.T0_e0 (z7 : LLM) (z8 : LI) (z9 : LI) : T := mkT 77 [(1, (.ptr 1001 0)), (2, (.ptr 1002 0)), (4, (.row 1019)), (5, (.row 1020))]
def f9.H0_e0 (z7 : LLM) (z8 : LI) (z9 : LI) : H := [(1001, (.box [(.tv (.sl (.sl (.st 0))) z7)])), (1002, (.box [.nil])), (1019, (.row 3 i64 z8)), (1020, (.row 3 i64 z9))]
def f9.s2' {R : Type} (L N : Nat) (k2_e4 : Int → Int → LLM → LI → LI → LM → LLM → Option R) (rec2 : Int → Int → LM → Int → Int → LLM → LI → LI → LM → LLM → Option R) (s22 : Int) (s23 : Int) (s24 : LM) (s25 : Int) (s26 : Int) (s27 : LLM) (s28 : LI) (s29 : LI) (s30 : LM) (s31 : LLM) : Option R :=
  bif (decide (s26 < s25)) then
    bif (decide (0 ≤ s26) && decide (s26 < (s24.length : Int))) then
      bif (decide (0 ≤ (listAt s24 (Ty.dflt (.st 0)) s26.toNat).to) && decide ((listAt s24 (Ty.dflt (.st 0)) s26.toNat).to < (s28.length : Int))) then
        (f24 L N s29 (listAt s28 (0 : Int) ((listAt s24 (Ty.dflt (.st 0)) s26.toNat).to).toNat)).bind fun y39 =>
        bif (decide (s30.length + ([(Move.mk ((listAt s24 (Ty.dflt (.st 0)) s26.toNat).act) y39)] : LM).length ≤ lim)) then
          rec2 s22 s23 s24 s25 (wi (s26 + (1 : Int))) s27 s28 s29 (s30 ++ ([(Move.mk ((listAt s24 (Ty.dflt (.st 0)) s26.toNat).act) y39)] : LM)) s31
        else none
      else none
    else none
  else k2_e4 s22 s23 s27 s28 s29 s30 s31
def f9.s2 {R : Type} (L N : Nat) (k2_e4 : Int → Int → LLM → LI → LI → LM → LLM → Option R) (rec2 : Int → Int → LM → Int → Int → LLM → LI → LI → LM → LLM → Option R) (s22 : Int) (s23 : Int) (s24 : LM) (s25 : Int) (s26 : Int) (s27 : LLM) (s28 : LI) (s29 : LI) (s30 : LM) (s31 : LLM) : Option R :=
  f9.s2' L N k2_e4 rec2 s22 s23 s24 s25 s26 s27 s28 s29 s30 s31
def f9.l2 {R : Type} (L N : Nat) (k2_e4 : Int → Int → LLM → LI → LI → LM → LLM → Option R) : Nat → Int → Int → LM → Int → Int → LLM → LI → LI → LM → LLM → Option R
  | 0, _, _, _, _, _, _, _, _, _, _ => none
  | n + 1, s22, s23, s24, s25, s26, s27, s28, s29, s30, s31 => f9.s2 L N k2_e4 (f9.l2 L N k2_e4 n) s22 s23 s24 s25 s26 s27 s28 s29 s30 s31
def f9.T2 (s22 : Int) (s23 : Int) (s24 : LM) (s25 : Int) (s26 : Int) (s27 : LLM) (s28 : LI) (s29 : LI) (s30 : LM) (s31 : LLM) : T := mkT 77 [(1, (.ptr 1001 0)), (2, (.ptr 1002 0)), (4, (.row 1019)), (5, (.row 1020)), (8, (.ptr 1008 0)), (11, (.row 1043)), (37, (.row 1020)), (38, (.tv i64 s22)), (39, (.tv i64 s23)), (48, (.tv (.sl (.st 0)) s24)), (49, (.tv i64 s25)), (50, (.tv i64 s26))]
def f9.H2 (s22 : Int) (s23 : Int) (s24 : LM) (s25 : Int) (s26 : Int) (s27 : LLM) (s28 : LI) (s29 : LI) (s30 : LM) (s31 : LLM) : H := [(1001, (.box [(.tv (.sl (.sl (.st 0))) s27)])), (1002, (.box [.nil])), (1008, (.box [(.row 1920)])), (1019, (.row 3 i64 s28)), (1020, (.row 3 i64 s29)), (1043, (.row 50 (.st 0) s30)), (1920, (.row 48 (.sl (.st 0)) s31))]
def f9.T2_e4 (z32 : Int) (z33 : Int) (z34 : LLM) (z35 : LI) (z36 : LI) (z37 : LM) (z38 : LLM) : T := mkT 77 [(1, (.ptr 1001 0)), (2, (.ptr 1002 0)), (4, (.row 1019)), (5, (.row 1020)), (8, (.ptr 1008 0)), (11, (.row 1043)), (37, (.row 1020)), (38, (.tv i64 z32)), (39, (.tv i64 z33))]
def f9.H2_e4 (z32 : Int) (z33 : Int) (z34 : LLM) (z35 : LI) (z36 : LI) (z37 : LM) (z38 : LLM) : H := [(1001, (.box [(.tv (.sl (.sl (.st 0))) z34)])), (1002, (.box [.nil])), (1008, (.box [(.row 1920)])), (1019, (.row 3 i64 z35)), (1020, (.row 3 i64 z36)), (1043, (.row 50 (.st 0) z37)), (1920, (.row 48 (.sl (.st 0)) z38))]
def f9.p2_e4' {R : Type} (L N : Nat) (k1_e2 : LLM → Option R) (rec1 : Int → Int → LLM → LI → LI → LLM → Option R) (z32 : Int) (z33 : Int) (z34 : LLM) (z35 : LI) (z36 : LI) (z37 : LM) (z38 : LLM) : Option R :=
  ((fsortM z37)).bind fun y40 =>
  bif (decide (z38.length + ([(tidyM z37)] : LLM).length ≤ lim)) then
    rec1 z32 (wi (z33 + (1 : Int))) z34 z35 z36 (z38 ++ ([(tidyM z37)] : LLM))
  else none
def f9.p2_e4 {R : Type} (L N : Nat) (k1_e2 : LLM → Option R) (rec1 : Int → Int → LLM → LI → LI → LLM → Option R) (z32 : Int) (z33 : Int) (z34 : LLM) (z35 : LI) (z36 : LI) (z37 : LM) (z38 : LLM) : Option R :=
  f9.p2_e4' L N k1_e2 rec1 z32 z33 z34 z35 z36 z37 z38
def f9.s1' {R : Type} (L N : Nat) (k1_e2 : LLM → Option R) (rec1 : Int → Int → LLM → LI → LI → LLM → Option R) (w2 : Int → Int → LM → Int → Int → LLM → LI → LI → LM → LLM → Option R) (s15 : Int) (s16 : Int) (s17 : LLM) (s18 : LI) (s19 : LI) (s20 : LLM) : Option R :=
  bif (decide (s16 < s15)) then
    bif (decide (0 ≤ s16) && decide (s16 < (s19.length : Int))) then
      bif (decide (0 ≤ (listAt s19 (0 : Int) s16.toNat)) && decide ((listAt s19 (0 : Int) s16.toNat) < (s17.length : Int))) then
        w2 s15 s16 (listAt s17 [] (listAt s19 (0 : Int) s16.toNat).toNat) ((listAt s17 [] (listAt s19 (0 : Int) s16.toNat).toNat).length : Int) (0 : Int) s17 s18 s19 ([] : LM) s20
      else none
    else none
  else k1_e2 s20
def f9.s1 {R : Type} (L N : Nat) (k1_e2 : LLM → Option R) (rec1 : Int → Int → LLM → LI → LI → LLM → Option R) (s15 : Int) (s16 : Int) (s17 : LLM) (s18 : LI) (s19 : LI) (s20 : LLM) : Option R :=
  f9.s1' L N k1_e2 rec1 (fun s22 s23 s24 s25 s26 s27 s28 s29 s30 s31 => f9.l2 L N (fun z32 z33 z34 z35 z36 z37 z38 => f9.p2_e4 L N k1_e2 rec1 z32 z33 z34 z35 z36 z37 z38) L s22 s23 s24 s25 s26 s27 s28 s29 s30 s31) s15 s16 s17 s18 s19 s20
def f9.l1 {R : Type} (L N : Nat) (k1_e2 : LLM → Option R) : Nat → Int → Int → LLM → LI → LI → LLM → Option R
  | 0, _, _, _, _, _, _ => none
  | n + 1, s15, s16, s17, s18, s19, s20 => f9.s1 L N k1_e2 (f9.l1 L N k1_e2 n) s15 s16 s17 s18 s19 s20
def f9.T1 (s15 : Int) (s16 : Int) (s17 : LLM) (s18 : LI) (s19 : LI) (s20 : LLM) : T := mkT 77 [(1, (.ptr 1001 0)), (2, (.ptr 1002 0)), (4, (.row 1019)), (5, (.row 1020)), (8, (.ptr 1008 0)), (37, (.row 1020)), (38, (.tv i64 s15)), (39, (.tv i64 s16))]
def f9.H1 (s15 : Int) (s16 : Int) (s17 : LLM) (s18 : LI) (s19 : LI) (s20 : LLM) : H := [(1001, (.box [(.tv (.sl (.sl (.st 0))) s17)])), (1002, (.box [.nil])), (1008, (.box [(.row 1920)])), (1019, (.row 3 i64 s18)), (1020, (.row 3 i64 s19)), (1920, (.row 48 (.sl (.st 0)) s20))]
def f9.T1_e2 (z21 : LLM) : T := mkT 77 [(2, (.ptr 1002 0)), (8, (.ptr 1008 0))]
def f9.H1_e2 (z21 : LLM) : H := [(1002, (.box [.nil])), (1008, (.box [(.row 1920)])), (1920, (.row 48 (.sl (.st 0)) z21))]
def f9.p1_e2' {R : Type} (L N : Nat) (k : Graph → Bool → Option R) (z21 : LLM) : Option R :=
  k (Graph.mk z21) true
def f9.p1_e2 {R : Type} (L N : Nat) (k : Graph → Bool → Option R) (z21 : LLM) : Option R :=
  f9.p1_e2' L N k z21
def f9.p0_e0' {R : Type} (L N : Nat) (k : Graph → Bool → Option R) (w1 : Int → Int → LLM → LI → LI → LLM → Option R) (z7 : LLM) (z8 : LI) (z9 : LI) : Option R :=
  w1 (z9.length : Int) (0 : Int) z7 z8 z9 ([] : LLM)
def f9.p0_e0 {R : Type} (L N : Nat) (k : Graph → Bool → Option R) (z7 : LLM) (z8 : LI) (z9 : LI) : Option R :=
  f9.p0_e0' L N k (fun s15 s16 s17 s18 s19 s20 => f9.l1 L N (fun z21 => f9.p1_e2 L N k z21) L s15 s16 s17 s18 s19 s20) z7 z8 z9
def f9.b' {R : Type} (L N : Nat) (k : Graph → Bool → Option R) (w0 : Int → Int → LLM → LI → LI → Option R) (x0 : Graph) : Option R :=
  (f21 L N (Graph.mk x0.moves)).bind fun y0 =>
  bif (!y0) then
    k (Graph.mk []) false
  else (f23 L N (Graph.mk x0.moves)).bind fun y1 =>
  w0 (y1.length : Int) (0 : Int) x0.moves y1 ([] : LI)
def f9.b {R : Type} (L N : Nat) (k : Graph → Bool → Option R) (x0 : Graph) : Option R :=
  f9.b' L N k (fun s2 s3 s4 s5 s6 => f9.l0 L N (fun z7 z8 z9 => f9.p0_e0 L N k z7 z8 z9) L s2 s3 s4 s5 s6) x0
def f9 (L N : Nat) (x0 : Graph) : Option (Graph × Bool) := f9.b L N (fun a0 a1 => some (a0, a1)) x0
def f9.ent (L N : Nat) (args : List AV) (vw : View) (site : Nat) : Ans := match coeD [(.st 2)] vw args with
  | some (d, u) => ⟨Graph × Bool, f9 L N d.1, fun y => ((.tup [(.tv (.st 2) y.1), (.tv .bool y.2)]), u, [])⟩
  | none => Ans.no
noncomputable def E9 (L N : Nat) : Env := { P := Tryz.prog, ty := tyOf, Φ := (Φ24 L N), inl := inlT, live := lives, liveX := livesX, L := L, dp := none, prom := promT, heal := healT, ren := renT }
noncomputable def f9.c0 : Code := loopAt 0 (codeOf Tryz.f9)
theorem f9.s0_eq {R : Type} (L N : Nat) (κ : Ex → T → H → Option R) (rec : T → H → Option R) (s2 : Int) (s3 : Int) (s4 : LLM) (s5 : LI) (s6 : LI) :
    evRd (E9 L N) (evCallI (E9 L N) 0 1000) 1000 9 77 0 f9.c0 κ rec (f9.T0 s2 s3 s4 s5 s6) (f9.H0 s2 s3 s4 s5 s6)
    = f9.s0 L N (fun z7 z8 z9 => κ (.exit 0) (f9.T0_e0 z7 z8 z9) (f9.H0_e0 z7 z8 z9)) (fun s2 s3 s4 s5 s6 => rec (f9.T0 s2 s3 s4 s5 s6) (f9.H0 s2 s3 s4 s5 s6)) s2 s3 s4 s5 s6 := by kernel_rfl
theorem f9.l0_eq {R : Type} (L N : Nat) (κ : Ex → T → H → Option R) : ∀ (n : Nat) (s2 : Int) (s3 : Int) (s4 : LLM) (s5 : LI) (s6 : LI),
    evLp (E9 L N) (evCallI (E9 L N) 0 1000) 1000 9 77 0 f9.c0 κ n (f9.T0 s2 s3 s4 s5 s6) (f9.H0 s2 s3 s4 s5 s6)
    = f9.l0 L N (fun z7 z8 z9 => κ (.exit 0) (f9.T0_e0 z7 z8 z9) (f9.H0_e0 z7 z8 z9)) n s2 s3 s4 s5 s6 := by
  intro n
  induction n with
  | zero => intros; rfl
  | succ n ih =>
    intro s2 s3 s4 s5 s6
    rw [evLp_succ, f9.s0_eq]
    simp only [ih]
    rfl
noncomputable def f9.c1 : Code := loopAt 2 (codeOf Tryz.f9)
noncomputable def f9.c2 : Code := loopAt 4 f9.c1
theorem f9.s2_eq {R : Type} (L N : Nat) (κ : Ex → T → H → Option R) (rec : T → H → Option R) (s22 : Int) (s23 : Int) (s24 : LM) (s25 : Int) (s26 : Int) (s27 : LLM) (s28 : LI) (s29 : LI) (s30 : LM) (s31 : LLM) :
    evRd (E9 L N) (evCallI (E9 L N) 0 1000) 1000 9 77 4 f9.c2 κ rec (f9.T2 s22 s23 s24 s25 s26 s27 s28 s29 s30 s31) (f9.H2 s22 s23 s24 s25 s26 s27 s28 s29 s30 s31)
    = f9.s2 L N (fun z32 z33 z34 z35 z36 z37 z38 => κ (.exit 4) (f9.T2_e4 z32 z33 z34 z35 z36 z37 z38) (f9.H2_e4 z32 z33 z34 z35 z36 z37 z38)) (fun s22 s23 s24 s25 s26 s27 s28 s29 s30 s31 => rec (f9.T2 s22 s23 s24 s25 s26 s27 s28 s29 s30 s31) (f9.H2 s22 s23 s24 s25 s26 s27 s28 s29 s30 s31)) s22 s23 s24 s25 s26 s27 s28 s29 s30 s31 := by kernel_rfl
theorem f9.l2_eq {R : Type} (L N : Nat) (κ : Ex → T → H → Option R) : ∀ (n : Nat) (s22 : Int) (s23 : Int) (s24 : LM) (s25 : Int) (s26 : Int) (s27 : LLM) (s28 : LI) (s29 : LI) (s30 : LM) (s31 : LLM),
    evLp (E9 L N) (evCallI (E9 L N) 0 1000) 1000 9 77 4 f9.c2 κ n (f9.T2 s22 s23 s24 s25 s26 s27 s28 s29 s30 s31) (f9.H2 s22 s23 s24 s25 s26 s27 s28 s29 s30 s31)
    = f9.l2 L N (fun z32 z33 z34 z35 z36 z37 z38 => κ (.exit 4) (f9.T2_e4 z32 z33 z34 z35 z36 z37 z38) (f9.H2_e4 z32 z33 z34 z35 z36 z37 z38)) n s22 s23 s24 s25 s26 s27 s28 s29 s30 s31 := by
  intro n
  induction n with
  | zero => intros; rfl
  | succ n ih =>
    intro s22 s23 s24 s25 s26 s27 s28 s29 s30 s31
    rw [evLp_succ, f9.s2_eq]
    simp only [ih]
    rfl
theorem f9.p2_e4_eq {R : Type} (L N : Nat) (κ : Ex → T → H → Option R) (rec : T → H → Option R) (z32 : Int) (z33 : Int) (z34 : LLM) (z35 : LI) (z36 : LI) (z37 : LM) (z38 : LLM) :
    (contAt (E9 L N) (evCallI (E9 L N) 0 1000) 1000 9 77 4 f9.c1 (rdK (E9 L N) 1000 9 77 2 κ rec)) (.exit 4) (f9.T2_e4 z32 z33 z34 z35 z36 z37 z38) (f9.H2_e4 z32 z33 z34 z35 z36 z37 z38)
    = f9.p2_e4 L N (fun z21 => κ (.exit 2) (f9.T1_e2 z21) (f9.H1_e2 z21)) (fun s15 s16 s17 s18 s19 s20 => rec (f9.T1 s15 s16 s17 s18 s19 s20) (f9.H1 s15 s16 s17 s18 s19 s20)) z32 z33 z34 z35 z36 z37 z38 := by kernel_rfl
theorem f9.s1_eq {R : Type} (L N : Nat) (κ : Ex → T → H → Option R) (rec : T → H → Option R) (s15 : Int) (s16 : Int) (s17 : LLM) (s18 : LI) (s19 : LI) (s20 : LLM) :
    evRd (E9 L N) (evCallI (E9 L N) 0 1000) 1000 9 77 2 f9.c1 κ rec (f9.T1 s15 s16 s17 s18 s19 s20) (f9.H1 s15 s16 s17 s18 s19 s20)
    = f9.s1 L N (fun z21 => κ (.exit 2) (f9.T1_e2 z21) (f9.H1_e2 z21)) (fun s15 s16 s17 s18 s19 s20 => rec (f9.T1 s15 s16 s17 s18 s19 s20) (f9.H1 s15 s16 s17 s18 s19 s20)) s15 s16 s17 s18 s19 s20 := by
  refine Eq.trans (b := f9.s1' L N (fun z21 => κ (.exit 2) (f9.T1_e2 z21) (f9.H1_e2 z21)) (fun s15 s16 s17 s18 s19 s20 => rec (f9.T1 s15 s16 s17 s18 s19 s20) (f9.H1 s15 s16 s17 s18 s19 s20)) (fun s22 s23 s24 s25 s26 s27 s28 s29 s30 s31 => evLp (E9 L N) (evCallI (E9 L N) 0 1000) 1000 9 77 4 f9.c2 (contAt (E9 L N) (evCallI (E9 L N) 0 1000) 1000 9 77 4 f9.c1 (rdK (E9 L N) 1000 9 77 2 κ rec)) L (f9.T2 s22 s23 s24 s25 s26 s27 s28 s29 s30 s31) (f9.H2 s22 s23 s24 s25 s26 s27 s28 s29 s30 s31)) s15 s16 s17 s18 s19 s20) (by kernel_rfl) ?_
  unfold f9.s1
  simp only [f9.l2_eq, f9.p2_e4_eq]
theorem f9.l1_eq {R : Type} (L N : Nat) (κ : Ex → T → H → Option R) : ∀ (n : Nat) (s15 : Int) (s16 : Int) (s17 : LLM) (s18 : LI) (s19 : LI) (s20 : LLM),
    evLp (E9 L N) (evCallI (E9 L N) 0 1000) 1000 9 77 2 f9.c1 κ n (f9.T1 s15 s16 s17 s18 s19 s20) (f9.H1 s15 s16 s17 s18 s19 s20)
    = f9.l1 L N (fun z21 => κ (.exit 2) (f9.T1_e2 z21) (f9.H1_e2 z21)) n s15 s16 s17 s18 s19 s20 := by
  intro n
  induction n with
  | zero => intros; rfl
  | succ n ih =>
    intro s15 s16 s17 s18 s19 s20
    rw [evLp_succ, f9.s1_eq]
    simp only [ih]
    rfl
theorem f9.p1_e2_eq {R : Type} (L N : Nat) (κ : AV → Option R) (z21 : LLM) :
    (contAt (E9 L N) (evCallI (E9 L N) 0 1000) 1000 9 77 2 (codeOf Tryz.f9) (finK (E9 L N) 1000 Tryz.f9 (finC (.many [(.st 2), .bool]) κ))) (.exit 2) (f9.T1_e2 z21) (f9.H1_e2 z21)
    = f9.p1_e2 L N (fun a0 a1 => κ (.tup [(.tv (.st 2) a0), (.tv .bool a1)])) z21 := by kernel_rfl
theorem f9.p0_e0_eq {R : Type} (L N : Nat) (κ : AV → Option R) (z7 : LLM) (z8 : LI) (z9 : LI) :
    (contAt (E9 L N) (evCallI (E9 L N) 0 1000) 1000 9 77 0 (codeOf Tryz.f9) (finK (E9 L N) 1000 Tryz.f9 (finC (.many [(.st 2), .bool]) κ))) (.exit 0) (f9.T0_e0 z7 z8 z9) (f9.H0_e0 z7 z8 z9)
    = f9.p0_e0 L N (fun a0 a1 => κ (.tup [(.tv (.st 2) a0), (.tv .bool a1)])) z7 z8 z9 := by
  refine Eq.trans (b := f9.p0_e0' L N (fun a0 a1 => κ (.tup [(.tv (.st 2) a0), (.tv .bool a1)])) (fun s15 s16 s17 s18 s19 s20 => evLp (E9 L N) (evCallI (E9 L N) 0 1000) 1000 9 77 2 f9.c1 (contAt (E9 L N) (evCallI (E9 L N) 0 1000) 1000 9 77 2 (codeOf Tryz.f9) (finK (E9 L N) 1000 Tryz.f9 (finC (.many [(.st 2), .bool]) κ))) L (f9.T1 s15 s16 s17 s18 s19 s20) (f9.H1 s15 s16 s17 s18 s19 s20)) z7 z8 z9) (by kernel_rfl) ?_
  unfold f9.p0_e0
  simp only [f9.l1_eq, f9.p1_e2_eq]
theorem f9.b_eq {R : Type} (L N : Nat) (κ : AV → Option R) (x0 : Graph) :
    evBody (E9 L N) (evCallI (E9 L N) 0 1000) 1000 9 Tryz.f9 [(.tv (.st 2) x0)] [] [] (finC (.many [(.st 2), .bool]) κ)
    = f9.b L N (fun a0 a1 => κ (.tup [(.tv (.st 2) a0), (.tv .bool a1)])) x0 := by
  refine Eq.trans (b := f9.b' L N (fun a0 a1 => κ (.tup [(.tv (.st 2) a0), (.tv .bool a1)])) (fun s2 s3 s4 s5 s6 => evLp (E9 L N) (evCallI (E9 L N) 0 1000) 1000 9 77 0 f9.c0 (contAt (E9 L N) (evCallI (E9 L N) 0 1000) 1000 9 77 0 (codeOf Tryz.f9) (finK (E9 L N) 1000 Tryz.f9 (finC (.many [(.st 2), .bool]) κ))) L (f9.T0 s2 s3 s4 s5 s6) (f9.H0 s2 s3 s4 s5 s6)) x0) (by kernel_rfl) ?_
  unfold f9.b
  simp only [f9.l0_eq, f9.p0_e0_eq]
theorem f9.ok (L N : Nat) (hΦ : TellsOk Tryz.prog ((Φ24 L N))) : EntOk Tryz.prog 9 (f9.ent L N) := by
  intro args vw site h
  unfold f9.ent
  split
  · rename_i d u ha
    intro y hy hs
    refine call_data (dep := 1000) (E := (E9 L N)) (rs := (.many [(.st 2), .bool])) (κ := unR (.many [(.st 2), .bool])) (sound_of hΦ) okP (callI_sound (sound_of hΦ) okP 0 1000) (f := Tryz.f9) rfl hs ha ?_ (fun _ h => unR_some h) site
    exact (f9.b_eq L N (unR (.many [(.st 2), .bool])) d.1).trans (Eq.trans (b := f9.b L N (fun a0 a1 => some (a0, a1)) d.1) (by kernel_rfl) hy)
  · intro y hy
    cases hy
def Φ9 (L N : Nat) : Tells := (addT (Φ24 L N) 9 (f9.ent L N))
theorem Φ9_ok (L N : Nat) : TellsOk Tryz.prog (Φ9 L N) := addT_ok (Φ24_ok L N) (f9.ok L N (Φ24_ok L N))
def f3.j0' {R : Type} (L N : Nat) (k : Bool → Option R) (v8 : LI) (v9 : Bool) (v10 : LLM) : Option R :=
  (f8 L N (Graph.mk v10)).bind fun y11 =>
  (f9 L N (Graph.mk v10)).bind fun y12 =>
  bif (!y11.2) then
    bif (!y12.2) then
      k true
    else (f6 L N (Graph.mk y12.1.moves) v8).bind fun y13 =>
    k (y13 == v9)
  else (f6 L N (Graph.mk y11.1) v8).bind fun y14 =>
  bif (y14 == v9) then
    bif (!y12.2) then
      k true
    else (f6 L N (Graph.mk y12.1.moves) v8).bind fun y15 =>
    k (y15 == v9)
  else k false
def f3.b' {R : Type} (L N : Nat) (k : Bool → Option R) (x0 : LI) : Option R :=
  bif (decide ((x0.length : Int) > (1048576 : Int))) then
    k true
  else (f5 L N x0).bind fun y0 =>
  (f6 L N (Graph.mk y0.1.moves) y0.2).bind fun y1 =>
  (f7 L N (Graph.mk y0.1.moves) y0.2).bind fun y2 =>
  bif (!(y1 == y2)) then
    k false
  else bif y1 then
    bif (decide ((y0.2.length : Int) > (0 : Int))) then
      bif (slB (0 : Int) (wi ((y0.2.length : Int) - (1 : Int))) y0.2.length) then
        (f6 L N (Graph.mk y0.1.moves) (slX y0.2 (0 : Int) (wi ((y0.2.length : Int) - (1 : Int))))).bind fun y3 =>
        bif (!y3) then
          k false
        else f3.j0' L N k y0.2 y1 y0.1.moves
      else none
    else f3.j0' L N k y0.2 y1 y0.1.moves
  else f3.j0' L N k y0.2 y1 y0.1.moves
def f3.b {R : Type} (L N : Nat) (k : Bool → Option R) (x0 : LI) : Option R :=
  f3.b' L N k x0
def f3 (L N : Nat) (x0 : LI) : Option (Bool) := f3.b L N some x0
def f3.ent (L N : Nat) (args : List AV) (vw : View) (site : Nat) : Ans := match roD [(.sl (.int .u8))] vw args with
  | some d => ⟨Bool, f3 L N d.1, fun y => ((.tv .bool y), [], [])⟩
  | none => Ans.no
noncomputable def E3 (L N : Nat) : Env := { P := Tryz.prog, ty := tyOf, Φ := (Φ9 L N), inl := inlT, live := lives, liveX := livesX, L := L, dp := none, prom := promT, heal := healT, ren := renT }
theorem f3.b_eq {R : Type} (L N : Nat) (κ : AV → Option R) (x0 : LI) :
    evBody (E3 L N) (evCallI (E3 L N) 0 1000) 1000 3 Tryz.f3 [(.tv (.sl (.int .u8)) x0)] [] [] (finC (.one .bool) κ)
    = f3.b L N (fun a0 => κ (.tv .bool a0)) x0 := by kernel_rfl
theorem f3.ok (L N : Nat) (hΦ : TellsOk Tryz.prog ((Φ9 L N))) : EntOk Tryz.prog 3 (f3.ent L N) := by
  intro args vw site h
  unfold f3.ent
  split
  · rename_i d ha
    intro y hy hs
    refine call_ro (dep := 1000) (E := (E3 L N)) (rs := (.one .bool)) (κ := unR (.one .bool)) (sound_of hΦ) okP (callI_sound (sound_of hΦ) okP 0 1000) (f := Tryz.f3) rfl hs ha ?_ (fun _ h => unR_some h) rfl site
    exact (f3.b_eq L N (unR (.one .bool)) d.1).trans (Eq.trans (b := f3.b L N some d.1) (by kernel_rfl) hy)
  · intro y hy
    cases hy
def Φ3 (L N : Nat) : Tells := (addT (Φ9 L N) 3 (f3.ent L N))
theorem Φ3_ok (L N : Nat) : TellsOk Tryz.prog (Φ3 L N) := addT_ok (Φ9_ok L N) (f3.ok L N (Φ9_ok L N))
end Go.Proofs.YtffkhhblppfbfaaGreat.Ev
