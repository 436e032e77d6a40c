/- The seat's functions as plain functions: made by program (wip/gen/gen.py). -/
import Derived.Test.YthkonljgjjlloaaEvX
namespace Go.Proofs.Ythkonljgjjlloaa.Ev
open Go
set_option linter.unusedVariables false
set_option maxRecDepth 20000
def tyTab : List (Nat × Ty) := [(2, i64), (3, i64), (4, .bool), (5, (.int .u8)), (6, (.int .u8)), (9, .str), (10, .str), (11, .str), (12, (.int .u64)), (21, (.int .i32)), (22, (.sl .bool)), (26, (.sl (.int .u8))), (29, (.sl i64)), (33, (.sl (.st 1))), (34, (.st 1)), (35, (.st 1)), (38, (.sl (.st 1))), (39, (.st 1)), (40, (.st 1)), (47, (.sl (.sl (.st 0)))), (48, (.st 2)), (49, (.st 2)), (52, (.sl (.sl (.st 0)))), (53, (.st 2)), (54, (.st 2)), (62, (.sl (.st 0))), (63, (.st 0)), (64, (.st 0)), (89, (.sl (.st 0))), (100, (.sl (.st 1))), (101, (.st 1)), (102, (.st 1)), (110, (.st 0)), (121, (.sl .str)), (137, (.int .u32)), (138, (.int .u8)), (139, (.int .u8)), (142, (.int .i32)), (143, (.int .i32))]
def tyOf (t : Nat) : Option Ty := tyFind t tyTab
def lives (f i : Nat) : List Nat × List Nat :=
  bif Nat.beq f 16 && Nat.beq i 0 then ([0, 3, 4], [7]) else
  bif Nat.beq f 18 && Nat.beq i 0 then ([0, 1, 5], []) else
  bif Nat.beq f 48 && Nat.beq i 0 then ([0, 1, 5], []) else
  bif Nat.beq f 50 && Nat.beq i 0 then ([1, 4, 5], [1]) else
  bif Nat.beq f 51 && Nat.beq i 0 then ([0, 3, 4], [7]) else
  bif Nat.beq f 52 && Nat.beq i 0 then ([1, 5, 9, 10, 11], []) else
  bif Nat.beq f 53 && Nat.beq i 1 then ([38, 39, 40], []) else
  bif Nat.beq f 54 && Nat.beq i 0 then ([0, 1, 5], []) else
  bif Nat.beq f 57 && Nat.beq i 0 then ([1, 3, 7, 8, 9], [1]) else
  bif Nat.beq f 58 && Nat.beq i 0 then ([1, 3, 4], [1]) else
  ([], [])
def livesX (f i : Nat) : List Nat × List Nat :=
  bif Nat.beq f 16 && Nat.beq i 0 then ([3], [7]) else
  bif Nat.beq f 18 && Nat.beq i 0 then ([4], []) else
  bif Nat.beq f 48 && Nat.beq i 0 then ([1, 4], []) else
  bif Nat.beq f 50 && Nat.beq i 0 then ([2, 4], []) else
  bif Nat.beq f 51 && Nat.beq i 0 then ([3], [7]) else
  bif Nat.beq f 52 && Nat.beq i 0 then ([4, 5], []) else
  bif Nat.beq f 53 && Nat.beq i 1 then ([2], []) else
  bif Nat.beq f 54 && Nat.beq i 0 then ([4], []) else
  bif Nat.beq f 57 && Nat.beq i 0 then ([1, 3], [1]) else
  bif Nat.beq f 58 && Nat.beq i 0 then ([1, 3], [1]) else
  ([], [])
theorem okP : OkP Try.prog := OkP.mk' (by kernel_rfl) (by kernel_rfl)
def f15.b' {R : Type} (L N : Nat) (k : Bool → Option R) (x0 : (List Bool)) : Option R :=
  k ((x0.length : Int) == (8 : Int))
def f15.b {R : Type} (L N : Nat) (k : Bool → Option R) (x0 : (List Bool)) : Option R :=
  f15.b' L N k x0
def f15 (L N : Nat) (x0 : (List Bool)) : Option (Bool) := f15.b L N some x0
def f15.ent (L N : Nat) (args : List AV) (vw : View) (site : Nat) : Ans := match roD [(.sl .bool)] vw args with
  | some d => ⟨Bool, f15 L N d.1, fun y => ((.tv .bool y), [], [])⟩
  | none => Ans.no
noncomputable def E15 (L N : Nat) : Env := { P := Try.prog, ty := tyOf, Φ := noTells, inl := fun _ => false, live := lives, liveX := livesX, L := L }
theorem f15.b_pre {R : Type} (L N : Nat) (κ : AV → Option R) (x0 : (List Bool)) :
    evBody (E15 L N) (evCallI (E15 L N) 0 1000) 1000 15 Try.f15 [(.tv (.sl .bool) x0)] [] [] (finC (.one .bool) κ)
    = f15.b' L N (fun a0 => κ (.tv .bool a0)) x0 := by kernel_rfl
theorem f15.b_eq {R : Type} (L N : Nat) (κ : AV → Option R) (x0 : (List Bool)) :
    evBody (E15 L N) (evCallI (E15 L N) 0 1000) 1000 15 Try.f15 [(.tv (.sl .bool) x0)] [] [] (finC (.one .bool) κ)
    = f15.b L N (fun a0 => κ (.tv .bool a0)) x0 := by
  rw [f15.b_pre]
  unfold f15.b
  rfl
theorem f15.b'_nat {R R' : Type} (j : R → Option R') (L N : Nat) (k : Bool → Option R) (x0 : (List Bool)) :
    f15.b' L N (fun a0 => (k a0).bind j) x0 = (f15.b' L N k x0).bind j := by
  unfold f15.b'
  repeat' (first | (with_reducible refine cond_nat ?_ ?_) | (with_reducible refine bind_nat fun _ => ?_) | rfl)
theorem f15.b_nat {R R' : Type} (j : R → Option R') (L N : Nat) (k : Bool → Option R) (x0 : (List Bool)) :
    f15.b L N (fun a0 => (k a0).bind j) x0 = (f15.b L N k x0).bind j := by
  unfold f15.b
  exact f15.b'_nat ..
theorem f15.ok (L N : Nat) (hΦ : TellsOk Try.prog (noTells)) : EntOk Try.prog 15 (f15.ent L N) := by
  intro args vw site h
  unfold f15.ent
  split
  · rename_i d ha
    intro y hy hs
    refine call_ro (dep := 1000) (E := (E15 L N)) (rs := (.one .bool)) (v := (.tv .bool y)) (sound_of hΦ) okP (callI_sound (sound_of hΦ) okP 0 1000) (f := Try.f15) rfl hs ha ?_ rfl site
    refine (f15.b_eq L N some d.1).trans ?_
    refine ((f15.b_nat (fun y => (some (.tv .bool y) : Option AV)) L N some d.1)).trans ?_
    rw [show f15.b L N some d.1 = some y from hy]
    rfl
  · intro y hy
    cases hy
def Φ15 (L N : Nat) : Tells := (addT noTells 15 (f15.ent L N))
theorem Φ15_ok (L N : Nat) : TellsOk Try.prog (Φ15 L N) := addT_ok (no_ok _) (f15.ok L N (no_ok _))
def f16.s0' {R : Type} (L N : Nat) (k0_e0 : (List Bool) → Option R) (rec0 : (List Bool) → Int → (List Bool) → Option R) (s0 : (List Bool)) (s1 : Int) (s2 : (List Bool)) : Option R :=
  bif (decide (s1 < (s0.length : Int))) then
    bif (decide (0 ≤ s1) && decide (s1 < (s0.length : Int))) then
      bif (decide (0 ≤ s1) && decide (s1 < (s2.length : Int))) then
        rec0 s0 (wi (s1 + (1 : Int))) (s2.set s1.toNat (listAt s0 false s1.toNat))
      else none
    else none
  else k0_e0 s2
def f16.s0 {R : Type} (L N : Nat) (k0_e0 : (List Bool) → Option R) (rec0 : (List Bool) → Int → (List Bool) → Option R) (s0 : (List Bool)) (s1 : Int) (s2 : (List Bool)) : Option R :=
  f16.s0' L N k0_e0 rec0 s0 s1 s2
def f16.l0 {R : Type} (L N : Nat) (k0_e0 : (List Bool) → Option R) : Nat → (List Bool) → Int → (List Bool) → Option R
  | 0, _, _, _ => none
  | n + 1, s0, s1, s2 => f16.s0 L N k0_e0 (f16.l0 L N k0_e0 n) s0 s1 s2
def f16.T0 (s0 : (List Bool)) (s1 : Int) (s2 : (List Bool)) : T := mkT 22 [(0, (.tv (.sl .bool) s0)), (3, (.row 1007)), (4, (.tv i64 s1))]
def f16.H0 (s0 : (List Bool)) (s1 : Int) (s2 : (List Bool)) : H := [(1007, (.row 4 .bool s2))]
def f16.T0_e0 (z3 : (List Bool)) : T := mkT 22 [(3, (.row 1007))]
def f16.H0_e0 (z3 : (List Bool)) : H := [(1007, (.row 4 .bool z3))]
def f16.p0_e0' {R : Type} (L N : Nat) (k : (List Bool) → Option R) (z3 : (List Bool)) : Option R :=
  k z3
def f16.p0_e0 {R : Type} (L N : Nat) (k : (List Bool) → Option R) (z3 : (List Bool)) : Option R :=
  f16.p0_e0' L N k z3
def f16.b' {R : Type} (L N : Nat) (k : (List Bool) → Option R) (w0 : (List Bool) → Int → (List Bool) → Option R) (x0 : (List Bool)) : Option R :=
  bif (decide (0 ≤ (x0.length : Int)) && decide ((x0.length : Int) ≤ (lim : Int))) then
    w0 x0 (0 : Int) (List.replicate (x0.length : Int).toNat false)
  else none
def f16.b {R : Type} (L N : Nat) (k : (List Bool) → Option R) (x0 : (List Bool)) : Option R :=
  f16.b' L N k (fun s0 s1 s2 => f16.l0 L N (fun z3 => f16.p0_e0 L N k z3) L s0 s1 s2) x0
def f16 (L N : Nat) (x0 : (List Bool)) : Option ((List Bool)) := f16.b L N some x0
def f16.ent (L N : Nat) (args : List AV) (vw : View) (site : Nat) : Ans := match coeD [(.sl .bool)] vw args with
  | some (d, u) => ⟨(List Bool), f16 L N d.1, fun y => ((.tv (.sl .bool) y), u, [])⟩
  | none => Ans.no
noncomputable def E16 (L N : Nat) : Env := { P := Try.prog, ty := tyOf, Φ := (Φ15 L N), inl := fun _ => false, live := lives, liveX := livesX, L := L }
noncomputable def f16.c0 : Code := loopAt 0 (codeOf Try.f16)
theorem f16.s0_pre {R : Type} (L N : Nat) (κ : Ex → T → H → Option R) (rec : T → H → Option R) (s0 : (List Bool)) (s1 : Int) (s2 : (List Bool)) :
    evRd (E16 L N) (evCallI (E16 L N) 0 1000) 1000 16 22 0 f16.c0 κ rec (f16.T0 s0 s1 s2) (f16.H0 s0 s1 s2)
    = f16.s0' L N (fun z3 => κ (.exit 0) (f16.T0_e0 z3) (f16.H0_e0 z3)) (fun s0 s1 s2 => rec (f16.T0 s0 s1 s2) (f16.H0 s0 s1 s2)) s0 s1 s2 := by kernel_rfl
theorem f16.s0_eq {R : Type} (L N : Nat) (κ : Ex → T → H → Option R) (rec : T → H → Option R) (s0 : (List Bool)) (s1 : Int) (s2 : (List Bool)) :
    evRd (E16 L N) (evCallI (E16 L N) 0 1000) 1000 16 22 0 f16.c0 κ rec (f16.T0 s0 s1 s2) (f16.H0 s0 s1 s2)
    = f16.s0 L N (fun z3 => κ (.exit 0) (f16.T0_e0 z3) (f16.H0_e0 z3)) (fun s0 s1 s2 => rec (f16.T0 s0 s1 s2) (f16.H0 s0 s1 s2)) s0 s1 s2 := by
  rw [f16.s0_pre]
  unfold f16.s0
  rfl
theorem f16.l0_eq {R : Type} (L N : Nat) (κ : Ex → T → H → Option R) : ∀ (n : Nat) (s0 : (List Bool)) (s1 : Int) (s2 : (List Bool)),
    evLp (E16 L N) (evCallI (E16 L N) 0 1000) 1000 16 22 0 f16.c0 κ n (f16.T0 s0 s1 s2) (f16.H0 s0 s1 s2)
    = f16.l0 L N (fun z3 => κ (.exit 0) (f16.T0_e0 z3) (f16.H0_e0 z3)) n s0 s1 s2 := by
  intro n
  induction n with
  | zero => intros; rfl
  | succ n ih =>
    intro s0 s1 s2
    rw [evLp_succ, f16.s0_eq]
    simp only [ih]
    rfl
theorem f16.p0_e0_pre {R : Type} (L N : Nat) (κ : AV → Option R) (z3 : (List Bool)) :
    (contAt (E16 L N) (evCallI (E16 L N) 0 1000) 1000 16 22 0 (codeOf Try.f16) (finK (E16 L N) 1000 Try.f16 (finC (.one (.sl .bool)) κ))) (.exit 0) (f16.T0_e0 z3) (f16.H0_e0 z3)
    = f16.p0_e0' L N (fun a0 => κ (.tv (.sl .bool) a0)) z3 := by kernel_rfl
theorem f16.p0_e0_eq {R : Type} (L N : Nat) (κ : AV → Option R) (z3 : (List Bool)) :
    (contAt (E16 L N) (evCallI (E16 L N) 0 1000) 1000 16 22 0 (codeOf Try.f16) (finK (E16 L N) 1000 Try.f16 (finC (.one (.sl .bool)) κ))) (.exit 0) (f16.T0_e0 z3) (f16.H0_e0 z3)
    = f16.p0_e0 L N (fun a0 => κ (.tv (.sl .bool) a0)) z3 := by
  rw [f16.p0_e0_pre]
  unfold f16.p0_e0
  rfl
theorem f16.b_pre {R : Type} (L N : Nat) (κ : AV → Option R) (x0 : (List Bool)) :
    evBody (E16 L N) (evCallI (E16 L N) 0 1000) 1000 16 Try.f16 [(.tv (.sl .bool) x0)] [] [] (finC (.one (.sl .bool)) κ)
    = f16.b' L N (fun a0 => κ (.tv (.sl .bool) a0)) (fun s0 s1 s2 => evLp (E16 L N) (evCallI (E16 L N) 0 1000) 1000 16 22 0 f16.c0 (contAt (E16 L N) (evCallI (E16 L N) 0 1000) 1000 16 22 0 (codeOf Try.f16) (finK (E16 L N) 1000 Try.f16 (finC (.one (.sl .bool)) κ))) L (f16.T0 s0 s1 s2) (f16.H0 s0 s1 s2)) x0 := by kernel_rfl
theorem f16.b_eq {R : Type} (L N : Nat) (κ : AV → Option R) (x0 : (List Bool)) :
    evBody (E16 L N) (evCallI (E16 L N) 0 1000) 1000 16 Try.f16 [(.tv (.sl .bool) x0)] [] [] (finC (.one (.sl .bool)) κ)
    = f16.b L N (fun a0 => κ (.tv (.sl .bool) a0)) x0 := by
  rw [f16.b_pre]
  unfold f16.b
  simp only [f16.l0_eq, f16.p0_e0_eq]
theorem f16.s0'_nat {R R' : Type} (j : R → Option R') (L N : Nat) (k0_e0 : (List Bool) → Option R) (rec0 : (List Bool) → Int → (List Bool) → Option R) (s0 : (List Bool)) (s1 : Int) (s2 : (List Bool)) :
    f16.s0' L N (fun a0 => (k0_e0 a0).bind j) (fun a0 a1 a2 => (rec0 a0 a1 a2).bind j) s0 s1 s2 = (f16.s0' L N k0_e0 rec0 s0 s1 s2).bind j := by
  unfold f16.s0'
  repeat' (first | (with_reducible refine cond_nat ?_ ?_) | (with_reducible refine bind_nat fun _ => ?_) | rfl)
theorem f16.s0_nat {R R' : Type} (j : R → Option R') (L N : Nat) (k0_e0 : (List Bool) → Option R) (rec0 : (List Bool) → Int → (List Bool) → Option R) (s0 : (List Bool)) (s1 : Int) (s2 : (List Bool)) :
    f16.s0 L N (fun a0 => (k0_e0 a0).bind j) (fun a0 a1 a2 => (rec0 a0 a1 a2).bind j) s0 s1 s2 = (f16.s0 L N k0_e0 rec0 s0 s1 s2).bind j := by
  unfold f16.s0
  exact f16.s0'_nat ..
theorem f16.l0_nat {R R' : Type} (j : R → Option R') (L N : Nat) (k0_e0 : (List Bool) → Option R) : ∀ (n : Nat) (s0 : (List Bool)) (s1 : Int) (s2 : (List Bool)),
    f16.l0 L N (fun a0 => (k0_e0 a0).bind j) n s0 s1 s2 = (f16.l0 L N k0_e0 n s0 s1 s2).bind j := by
  intro n
  induction n with
  | zero => intros; rfl
  | succ n ih =>
    intro s0 s1 s2
    show f16.s0 L N (fun a0 => (k0_e0 a0).bind j) (f16.l0 L N (fun a0 => (k0_e0 a0).bind j) n) s0 s1 s2 = _
    rw [show f16.l0 L N (fun a0 => (k0_e0 a0).bind j) n = (fun s0 s1 s2 => (f16.l0 L N k0_e0 n s0 s1 s2).bind j) from funext fun s0 => funext fun s1 => funext fun s2 => ih s0 s1 s2]
    exact f16.s0_nat ..
theorem f16.p0_e0'_nat {R R' : Type} (j : R → Option R') (L N : Nat) (k : (List Bool) → Option R) (z3 : (List Bool)) :
    f16.p0_e0' L N (fun a0 => (k a0).bind j) z3 = (f16.p0_e0' L N k z3).bind j := by
  unfold f16.p0_e0'
  repeat' (first | (with_reducible refine cond_nat ?_ ?_) | (with_reducible refine bind_nat fun _ => ?_) | rfl)
theorem f16.p0_e0_nat {R R' : Type} (j : R → Option R') (L N : Nat) (k : (List Bool) → Option R) (z3 : (List Bool)) :
    f16.p0_e0 L N (fun a0 => (k a0).bind j) z3 = (f16.p0_e0 L N k z3).bind j := by
  unfold f16.p0_e0
  exact f16.p0_e0'_nat ..
theorem f16.b'_nat {R R' : Type} (j : R → Option R') (L N : Nat) (k : (List Bool) → Option R) (w0 : (List Bool) → Int → (List Bool) → Option R) (x0 : (List Bool)) :
    f16.b' L N (fun a0 => (k a0).bind j) (fun a0 a1 a2 => (w0 a0 a1 a2).bind j) x0 = (f16.b' L N k w0 x0).bind j := by
  unfold f16.b'
  repeat' (first | (with_reducible refine cond_nat ?_ ?_) | (with_reducible refine bind_nat fun _ => ?_) | rfl)
theorem f16.b_nat {R R' : Type} (j : R → Option R') (L N : Nat) (k : (List Bool) → Option R) (x0 : (List Bool)) :
    f16.b L N (fun a0 => (k a0).bind j) x0 = (f16.b L N k x0).bind j := by
  unfold f16.b
  simp only [f16.l0_nat, f16.p0_e0_nat]
  exact f16.b'_nat ..
theorem f16.ok (L N : Nat) (hΦ : TellsOk Try.prog ((Φ15 L N))) : EntOk Try.prog 16 (f16.ent L N) := by
  intro args vw site h
  unfold f16.ent
  split
  · rename_i d u ha
    intro y hy hs
    refine call_data (dep := 1000) (E := (E16 L N)) (rs := (.one (.sl .bool))) (v' := (.tv (.sl .bool) y)) (sound_of hΦ) okP (callI_sound (sound_of hΦ) okP 0 1000) (f := Try.f16) rfl hs ha ?_ site
    refine (f16.b_eq L N some d.1).trans ?_
    refine ((f16.b_nat (fun y => (some (.tv (.sl .bool) y) : Option AV)) L N some d.1)).trans ?_
    rw [show f16.b L N some d.1 = some y from hy]
    rfl
  · intro y hy
    cases hy
def Φ16 (L N : Nat) : Tells := (addT (Φ15 L N) 16 (f16.ent L N))
theorem Φ16_ok (L N : Nat) : TellsOk Try.prog (Φ16 L N) := addT_ok (Φ15_ok L N) (f16.ok L N (Φ15_ok L N))
def f17.b' {R : Type} (L N : Nat) (k : Bool → Option R) (x0 : (List Bool)) : Option R :=
  k ((x0.length : Int) == (8 : Int))
def f17.b {R : Type} (L N : Nat) (k : Bool → Option R) (x0 : (List Bool)) : Option R :=
  f17.b' L N k x0
def f17 (L N : Nat) (x0 : (List Bool)) : Option (Bool) := f17.b L N some x0
def f17.ent (L N : Nat) (args : List AV) (vw : View) (site : Nat) : Ans := match roD [(.sl .bool)] vw args with
  | some d => ⟨Bool, f17 L N d.1, fun y => ((.tv .bool y), [], [])⟩
  | none => Ans.no
noncomputable def E17 (L N : Nat) : Env := { P := Try.prog, ty := tyOf, Φ := (Φ16 L N), inl := fun _ => false, live := lives, liveX := livesX, L := L }
theorem f17.b_pre {R : Type} (L N : Nat) (κ : AV → Option R) (x0 : (List Bool)) :
    evBody (E17 L N) (evCallI (E17 L N) 0 1000) 1000 17 Try.f17 [(.tv (.sl .bool) x0)] [] [] (finC (.one .bool) κ)
    = f17.b' L N (fun a0 => κ (.tv .bool a0)) x0 := by kernel_rfl
theorem f17.b_eq {R : Type} (L N : Nat) (κ : AV → Option R) (x0 : (List Bool)) :
    evBody (E17 L N) (evCallI (E17 L N) 0 1000) 1000 17 Try.f17 [(.tv (.sl .bool) x0)] [] [] (finC (.one .bool) κ)
    = f17.b L N (fun a0 => κ (.tv .bool a0)) x0 := by
  rw [f17.b_pre]
  unfold f17.b
  rfl
theorem f17.b'_nat {R R' : Type} (j : R → Option R') (L N : Nat) (k : Bool → Option R) (x0 : (List Bool)) :
    f17.b' L N (fun a0 => (k a0).bind j) x0 = (f17.b' L N k x0).bind j := by
  unfold f17.b'
  repeat' (first | (with_reducible refine cond_nat ?_ ?_) | (with_reducible refine bind_nat fun _ => ?_) | rfl)
theorem f17.b_nat {R R' : Type} (j : R → Option R') (L N : Nat) (k : Bool → Option R) (x0 : (List Bool)) :
    f17.b L N (fun a0 => (k a0).bind j) x0 = (f17.b L N k x0).bind j := by
  unfold f17.b
  exact f17.b'_nat ..
theorem f17.ok (L N : Nat) (hΦ : TellsOk Try.prog ((Φ16 L N))) : EntOk Try.prog 17 (f17.ent L N) := by
  intro args vw site h
  unfold f17.ent
  split
  · rename_i d ha
    intro y hy hs
    refine call_ro (dep := 1000) (E := (E17 L N)) (rs := (.one .bool)) (v := (.tv .bool y)) (sound_of hΦ) okP (callI_sound (sound_of hΦ) okP 0 1000) (f := Try.f17) rfl hs ha ?_ rfl site
    refine (f17.b_eq L N some d.1).trans ?_
    refine ((f17.b_nat (fun y => (some (.tv .bool y) : Option AV)) L N some d.1)).trans ?_
    rw [show f17.b L N some d.1 = some y from hy]
    rfl
  · intro y hy
    cases hy
def Φ17 (L N : Nat) : Tells := (addT (Φ16 L N) 17 (f17.ent L N))
theorem Φ17_ok (L N : Nat) : TellsOk Try.prog (Φ17 L N) := addT_ok (Φ16_ok L N) (f17.ok L N (Φ16_ok L N))
def f18.s0' {R : Type} (L N : Nat) (k0_e0 : Option R) (k0_r : Bool → Option R) (rec0 : (List Bool) → (List Bool) → Int → Option R) (s0 : (List Bool)) (s1 : (List Bool)) (s2 : Int) : Option R :=
  bif (decide (s2 < (s0.length : Int))) then
    bif (decide (0 ≤ s2) && decide (s2 < (s0.length : Int))) then
      bif (decide (0 ≤ s2) && decide (s2 < (s1.length : Int))) then
        bif (!((listAt s0 false s2.toNat) == (listAt s1 false s2.toNat))) then
          k0_r false
        else rec0 s0 s1 (wi (s2 + (1 : Int)))
      else none
    else none
  else k0_e0
def f18.s0 {R : Type} (L N : Nat) (k0_e0 : Option R) (k0_r : Bool → Option R) (rec0 : (List Bool) → (List Bool) → Int → Option R) (s0 : (List Bool)) (s1 : (List Bool)) (s2 : Int) : Option R :=
  f18.s0' L N k0_e0 k0_r rec0 s0 s1 s2
def f18.l0 {R : Type} (L N : Nat) (k0_e0 : Option R) (k0_r : Bool → Option R) : Nat → (List Bool) → (List Bool) → Int → Option R
  | 0, _, _, _ => none
  | n + 1, s0, s1, s2 => f18.s0 L N k0_e0 k0_r (f18.l0 L N k0_e0 k0_r n) s0 s1 s2
def f18.T0 (s0 : (List Bool)) (s1 : (List Bool)) (s2 : Int) : T := mkT 26 [(0, (.tv (.sl .bool) s0)), (1, (.tv (.sl .bool) s1)), (5, (.tv i64 s2))]
def f18.H0 (s0 : (List Bool)) (s1 : (List Bool)) (s2 : Int) : H := []
def f18.T0_e0 : T := mkT 26 []
def f18.H0_e0 : H := []
def f18.T0_r (z3 : Bool) : T := mkT 26 [(4, (.tv .bool z3))]
def f18.H0_r (z3 : Bool) : H := []
def f18.p0_e0' {R : Type} (L N : Nat) (k : Bool → Option R) : Option R :=
  k true
def f18.p0_e0 {R : Type} (L N : Nat) (k : Bool → Option R) : Option R :=
  f18.p0_e0' L N k
def f18.p0_r' {R : Type} (L N : Nat) (k : Bool → Option R) (z3 : Bool) : Option R :=
  k z3
def f18.p0_r {R : Type} (L N : Nat) (k : Bool → Option R) (z3 : Bool) : Option R :=
  f18.p0_r' L N k z3
def f18.b' {R : Type} (L N : Nat) (k : Bool → Option R) (w0 : (List Bool) → (List Bool) → Int → Option R) (x0 : (List Bool)) (x1 : (List Bool)) : Option R :=
  bif ((x0.length : Int) != (x1.length : Int)) then
    k false
  else w0 x0 x1 (0 : Int)
def f18.b {R : Type} (L N : Nat) (k : Bool → Option R) (x0 : (List Bool)) (x1 : (List Bool)) : Option R :=
  f18.b' L N k (fun s0 s1 s2 => f18.l0 L N (f18.p0_e0 L N k) (fun z3 => f18.p0_r L N k z3) L s0 s1 s2) x0 x1
def f18 (L N : Nat) (x0 : (List Bool)) (x1 : (List Bool)) : Option (Bool) := f18.b L N some x0 x1
def f18.ent (L N : Nat) (args : List AV) (vw : View) (site : Nat) : Ans := match roD [(.sl .bool), (.sl .bool)] vw args with
  | some d => ⟨Bool, f18 L N d.1 d.2.1, fun y => ((.tv .bool y), [], [])⟩
  | none => Ans.no
noncomputable def E18 (L N : Nat) : Env := { P := Try.prog, ty := tyOf, Φ := (Φ17 L N), inl := fun _ => false, live := lives, liveX := livesX, L := L }
noncomputable def f18.c0 : Code := loopAt 0 (codeOf Try.f18)
theorem f18.s0_pre {R : Type} (L N : Nat) (κ : Ex → T → H → Option R) (rec : T → H → Option R) (s0 : (List Bool)) (s1 : (List Bool)) (s2 : Int) :
    evRd (E18 L N) (evCallI (E18 L N) 0 1000) 1000 18 26 0 f18.c0 κ rec (f18.T0 s0 s1 s2) (f18.H0 s0 s1 s2)
    = f18.s0' L N (κ (.exit 0) f18.T0_e0 f18.H0_e0) (fun z3 => κ .ret (f18.T0_r z3) (f18.H0_r z3)) (fun s0 s1 s2 => rec (f18.T0 s0 s1 s2) (f18.H0 s0 s1 s2)) s0 s1 s2 := by kernel_rfl
theorem f18.s0_eq {R : Type} (L N : Nat) (κ : Ex → T → H → Option R) (rec : T → H → Option R) (s0 : (List Bool)) (s1 : (List Bool)) (s2 : Int) :
    evRd (E18 L N) (evCallI (E18 L N) 0 1000) 1000 18 26 0 f18.c0 κ rec (f18.T0 s0 s1 s2) (f18.H0 s0 s1 s2)
    = f18.s0 L N (κ (.exit 0) f18.T0_e0 f18.H0_e0) (fun z3 => κ .ret (f18.T0_r z3) (f18.H0_r z3)) (fun s0 s1 s2 => rec (f18.T0 s0 s1 s2) (f18.H0 s0 s1 s2)) s0 s1 s2 := by
  rw [f18.s0_pre]
  unfold f18.s0
  rfl
theorem f18.l0_eq {R : Type} (L N : Nat) (κ : Ex → T → H → Option R) : ∀ (n : Nat) (s0 : (List Bool)) (s1 : (List Bool)) (s2 : Int),
    evLp (E18 L N) (evCallI (E18 L N) 0 1000) 1000 18 26 0 f18.c0 κ n (f18.T0 s0 s1 s2) (f18.H0 s0 s1 s2)
    = f18.l0 L N (κ (.exit 0) f18.T0_e0 f18.H0_e0) (fun z3 => κ .ret (f18.T0_r z3) (f18.H0_r z3)) n s0 s1 s2 := by
  intro n
  induction n with
  | zero => intros; rfl
  | succ n ih =>
    intro s0 s1 s2
    rw [evLp_succ, f18.s0_eq]
    simp only [ih]
    rfl
theorem f18.p0_e0_pre {R : Type} (L N : Nat) (κ : AV → Option R) :
    (contAt (E18 L N) (evCallI (E18 L N) 0 1000) 1000 18 26 0 (codeOf Try.f18) (finK (E18 L N) 1000 Try.f18 (finC (.one .bool) κ))) (.exit 0) f18.T0_e0 f18.H0_e0
    = f18.p0_e0' L N (fun a0 => κ (.tv .bool a0)) := by kernel_rfl
theorem f18.p0_e0_eq {R : Type} (L N : Nat) (κ : AV → Option R) :
    (contAt (E18 L N) (evCallI (E18 L N) 0 1000) 1000 18 26 0 (codeOf Try.f18) (finK (E18 L N) 1000 Try.f18 (finC (.one .bool) κ))) (.exit 0) f18.T0_e0 f18.H0_e0
    = f18.p0_e0 L N (fun a0 => κ (.tv .bool a0)) := by
  rw [f18.p0_e0_pre]
  unfold f18.p0_e0
  rfl
theorem f18.p0_r_pre {R : Type} (L N : Nat) (κ : AV → Option R) (z3 : Bool) :
    (contAt (E18 L N) (evCallI (E18 L N) 0 1000) 1000 18 26 0 (codeOf Try.f18) (finK (E18 L N) 1000 Try.f18 (finC (.one .bool) κ))) .ret (f18.T0_r z3) (f18.H0_r z3)
    = f18.p0_r' L N (fun a0 => κ (.tv .bool a0)) z3 := by kernel_rfl
theorem f18.p0_r_eq {R : Type} (L N : Nat) (κ : AV → Option R) (z3 : Bool) :
    (contAt (E18 L N) (evCallI (E18 L N) 0 1000) 1000 18 26 0 (codeOf Try.f18) (finK (E18 L N) 1000 Try.f18 (finC (.one .bool) κ))) .ret (f18.T0_r z3) (f18.H0_r z3)
    = f18.p0_r L N (fun a0 => κ (.tv .bool a0)) z3 := by
  rw [f18.p0_r_pre]
  unfold f18.p0_r
  rfl
theorem f18.b_pre {R : Type} (L N : Nat) (κ : AV → Option R) (x0 : (List Bool)) (x1 : (List Bool)) :
    evBody (E18 L N) (evCallI (E18 L N) 0 1000) 1000 18 Try.f18 [(.tv (.sl .bool) x0), (.tv (.sl .bool) x1)] [] [] (finC (.one .bool) κ)
    = f18.b' L N (fun a0 => κ (.tv .bool a0)) (fun s0 s1 s2 => evLp (E18 L N) (evCallI (E18 L N) 0 1000) 1000 18 26 0 f18.c0 (contAt (E18 L N) (evCallI (E18 L N) 0 1000) 1000 18 26 0 (codeOf Try.f18) (finK (E18 L N) 1000 Try.f18 (finC (.one .bool) κ))) L (f18.T0 s0 s1 s2) (f18.H0 s0 s1 s2)) x0 x1 := by kernel_rfl
theorem f18.b_eq {R : Type} (L N : Nat) (κ : AV → Option R) (x0 : (List Bool)) (x1 : (List Bool)) :
    evBody (E18 L N) (evCallI (E18 L N) 0 1000) 1000 18 Try.f18 [(.tv (.sl .bool) x0), (.tv (.sl .bool) x1)] [] [] (finC (.one .bool) κ)
    = f18.b L N (fun a0 => κ (.tv .bool a0)) x0 x1 := by
  rw [f18.b_pre]
  unfold f18.b
  simp only [f18.l0_eq, f18.p0_e0_eq, f18.p0_r_eq]
theorem f18.s0'_nat {R R' : Type} (j : R → Option R') (L N : Nat) (k0_e0 : Option R) (k0_r : Bool → Option R) (rec0 : (List Bool) → (List Bool) → Int → Option R) (s0 : (List Bool)) (s1 : (List Bool)) (s2 : Int) :
    f18.s0' L N (k0_e0.bind j) (fun a0 => (k0_r a0).bind j) (fun a0 a1 a2 => (rec0 a0 a1 a2).bind j) s0 s1 s2 = (f18.s0' L N k0_e0 k0_r rec0 s0 s1 s2).bind j := by
  unfold f18.s0'
  repeat' (first | (with_reducible refine cond_nat ?_ ?_) | (with_reducible refine bind_nat fun _ => ?_) | rfl)
theorem f18.s0_nat {R R' : Type} (j : R → Option R') (L N : Nat) (k0_e0 : Option R) (k0_r : Bool → Option R) (rec0 : (List Bool) → (List Bool) → Int → Option R) (s0 : (List Bool)) (s1 : (List Bool)) (s2 : Int) :
    f18.s0 L N (k0_e0.bind j) (fun a0 => (k0_r a0).bind j) (fun a0 a1 a2 => (rec0 a0 a1 a2).bind j) s0 s1 s2 = (f18.s0 L N k0_e0 k0_r rec0 s0 s1 s2).bind j := by
  unfold f18.s0
  exact f18.s0'_nat ..
theorem f18.l0_nat {R R' : Type} (j : R → Option R') (L N : Nat) (k0_e0 : Option R) (k0_r : Bool → Option R) : ∀ (n : Nat) (s0 : (List Bool)) (s1 : (List Bool)) (s2 : Int),
    f18.l0 L N (k0_e0.bind j) (fun a0 => (k0_r a0).bind j) n s0 s1 s2 = (f18.l0 L N k0_e0 k0_r n s0 s1 s2).bind j := by
  intro n
  induction n with
  | zero => intros; rfl
  | succ n ih =>
    intro s0 s1 s2
    show f18.s0 L N (k0_e0.bind j) (fun a0 => (k0_r a0).bind j) (f18.l0 L N (k0_e0.bind j) (fun a0 => (k0_r a0).bind j) n) s0 s1 s2 = _
    rw [show f18.l0 L N (k0_e0.bind j) (fun a0 => (k0_r a0).bind j) n = (fun s0 s1 s2 => (f18.l0 L N k0_e0 k0_r n s0 s1 s2).bind j) from funext fun s0 => funext fun s1 => funext fun s2 => ih s0 s1 s2]
    exact f18.s0_nat ..
theorem f18.p0_e0'_nat {R R' : Type} (j : R → Option R') (L N : Nat) (k : Bool → Option R) :
    f18.p0_e0' L N (fun a0 => (k a0).bind j) = (f18.p0_e0' L N k).bind j := by
  unfold f18.p0_e0'
  repeat' (first | (with_reducible refine cond_nat ?_ ?_) | (with_reducible refine bind_nat fun _ => ?_) | rfl)
theorem f18.p0_e0_nat {R R' : Type} (j : R → Option R') (L N : Nat) (k : Bool → Option R) :
    f18.p0_e0 L N (fun a0 => (k a0).bind j) = (f18.p0_e0 L N k).bind j := by
  unfold f18.p0_e0
  exact f18.p0_e0'_nat ..
theorem f18.p0_r'_nat {R R' : Type} (j : R → Option R') (L N : Nat) (k : Bool → Option R) (z3 : Bool) :
    f18.p0_r' L N (fun a0 => (k a0).bind j) z3 = (f18.p0_r' L N k z3).bind j := by
  unfold f18.p0_r'
  repeat' (first | (with_reducible refine cond_nat ?_ ?_) | (with_reducible refine bind_nat fun _ => ?_) | rfl)
theorem f18.p0_r_nat {R R' : Type} (j : R → Option R') (L N : Nat) (k : Bool → Option R) (z3 : Bool) :
    f18.p0_r L N (fun a0 => (k a0).bind j) z3 = (f18.p0_r L N k z3).bind j := by
  unfold f18.p0_r
  exact f18.p0_r'_nat ..
theorem f18.b'_nat {R R' : Type} (j : R → Option R') (L N : Nat) (k : Bool → Option R) (w0 : (List Bool) → (List Bool) → Int → Option R) (x0 : (List Bool)) (x1 : (List Bool)) :
    f18.b' L N (fun a0 => (k a0).bind j) (fun a0 a1 a2 => (w0 a0 a1 a2).bind j) x0 x1 = (f18.b' L N k w0 x0 x1).bind j := by
  unfold f18.b'
  repeat' (first | (with_reducible refine cond_nat ?_ ?_) | (with_reducible refine bind_nat fun _ => ?_) | rfl)
theorem f18.b_nat {R R' : Type} (j : R → Option R') (L N : Nat) (k : Bool → Option R) (x0 : (List Bool)) (x1 : (List Bool)) :
    f18.b L N (fun a0 => (k a0).bind j) x0 x1 = (f18.b L N k x0 x1).bind j := by
  unfold f18.b
  simp only [f18.l0_nat, f18.p0_e0_nat, f18.p0_r_nat]
  exact f18.b'_nat ..
theorem f18.ok (L N : Nat) (hΦ : TellsOk Try.prog ((Φ17 L N))) : EntOk Try.prog 18 (f18.ent L N) := by
  intro args vw site h
  unfold f18.ent
  split
  · rename_i d ha
    intro y hy hs
    refine call_ro (dep := 1000) (E := (E18 L N)) (rs := (.one .bool)) (v := (.tv .bool y)) (sound_of hΦ) okP (callI_sound (sound_of hΦ) okP 0 1000) (f := Try.f18) rfl hs ha ?_ rfl site
    refine (f18.b_eq L N some d.1 d.2.1).trans ?_
    refine ((f18.b_nat (fun y => (some (.tv .bool y) : Option AV)) L N some d.1 d.2.1)).trans ?_
    rw [show f18.b L N some d.1 d.2.1 = some y from hy]
    rfl
  · intro y hy
    cases hy
def Φ18 (L N : Nat) : Tells := (addT (Φ17 L N) 18 (f18.ent L N))
theorem Φ18_ok (L N : Nat) : TellsOk Try.prog (Φ18 L N) := addT_ok (Φ17_ok L N) (f18.ok L N (Φ17_ok L N))
def f3.b' {R : Type} (L N : Nat) (k : Bool → Option R) (x0 : (List Bool)) : Option R :=
  bif (decide ((x0.length : Int) > (1048576 : Int))) then
    k true
  else (f16 L N x0).bind fun y0 =>
  (f15 L N y0).bind fun y1 =>
  (f16 L N x0).bind fun y2 =>
  (f17 L N y2).bind fun y3 =>
  bif (!(y3 == y1)) then
    k false
  else (f16 L N x0).bind fun y4 =>
  (f18 L N y2 y4).bind fun y5 =>
  bif (!y5) then
    k false
  else k true
def f3.b {R : Type} (L N : Nat) (k : Bool → Option R) (x0 : (List Bool)) : Option R :=
  f3.b' L N k x0
def f3 (L N : Nat) (x0 : (List Bool)) : Option (Bool) := f3.b L N some x0
def f3.ent (L N : Nat) (args : List AV) (vw : View) (site : Nat) : Ans := match roD [(.sl .bool)] vw args with
  | some d => ⟨Bool, f3 L N d.1, fun y => ((.tv .bool y), [], [])⟩
  | none => Ans.no
noncomputable def E3 (L N : Nat) : Env := { P := Try.prog, ty := tyOf, Φ := (Φ18 L N), inl := fun _ => false, live := lives, liveX := livesX, L := L }
theorem f3.b_pre {R : Type} (L N : Nat) (κ : AV → Option R) (x0 : (List Bool)) :
    evBody (E3 L N) (evCallI (E3 L N) 0 1000) 1000 3 Try.f3 [(.tv (.sl .bool) x0)] [] [] (finC (.one .bool) κ)
    = f3.b' L N (fun a0 => κ (.tv .bool a0)) x0 := by kernel_rfl
theorem f3.b_eq {R : Type} (L N : Nat) (κ : AV → Option R) (x0 : (List Bool)) :
    evBody (E3 L N) (evCallI (E3 L N) 0 1000) 1000 3 Try.f3 [(.tv (.sl .bool) x0)] [] [] (finC (.one .bool) κ)
    = f3.b L N (fun a0 => κ (.tv .bool a0)) x0 := by
  rw [f3.b_pre]
  unfold f3.b
  rfl
theorem f3.b'_nat {R R' : Type} (j : R → Option R') (L N : Nat) (k : Bool → Option R) (x0 : (List Bool)) :
    f3.b' L N (fun a0 => (k a0).bind j) x0 = (f3.b' L N k x0).bind j := by
  unfold f3.b'
  repeat' (first | (with_reducible refine cond_nat ?_ ?_) | (with_reducible refine bind_nat fun _ => ?_) | rfl)
theorem f3.b_nat {R R' : Type} (j : R → Option R') (L N : Nat) (k : Bool → Option R) (x0 : (List Bool)) :
    f3.b L N (fun a0 => (k a0).bind j) x0 = (f3.b L N k x0).bind j := by
  unfold f3.b
  exact f3.b'_nat ..
theorem f3.ok (L N : Nat) (hΦ : TellsOk Try.prog ((Φ18 L N))) : EntOk Try.prog 3 (f3.ent L N) := by
  intro args vw site h
  unfold f3.ent
  split
  · rename_i d ha
    intro y hy hs
    refine call_ro (dep := 1000) (E := (E3 L N)) (rs := (.one .bool)) (v := (.tv .bool y)) (sound_of hΦ) okP (callI_sound (sound_of hΦ) okP 0 1000) (f := Try.f3) rfl hs ha ?_ rfl site
    refine (f3.b_eq L N some d.1).trans ?_
    refine ((f3.b_nat (fun y => (some (.tv .bool y) : Option AV)) L N some d.1)).trans ?_
    rw [show f3.b L N some d.1 = some y from hy]
    rfl
  · intro y hy
    cases hy
def Φ3 (L N : Nat) : Tells := (addT (Φ18 L N) 3 (f3.ent L N))
theorem Φ3_ok (L N : Nat) : TellsOk Try.prog (Φ3 L N) := addT_ok (Φ18_ok L N) (f3.ok L N (Φ18_ok L N))
def f24.b' {R : Type} (L N : Nat) (self24 : Tree → Int → Option (Int)) (self48 : (List Tree) → Int → Option (Int)) (k : Int → Option R) (x0 : Tree) (x1 : Int) : Option R :=
  (self48 x0.parts x1).bind fun y0 =>
  bif (decide (y0 < (0 : Int))) then
    k (-1 : Int)
  else k y0
def f24.b {R : Type} (L N : Nat) (self24 : Tree → Int → Option (Int)) (self48 : (List Tree) → Int → Option (Int)) (k : Int → Option R) (x0 : Tree) (x1 : Int) : Option R :=
  f24.b' L N self24 self48 k x0 x1
def f48.s0' {R : Type} (L N : Nat) (self24 : Tree → Int → Option (Int)) (self48 : (List Tree) → Int → Option (Int)) (k0_e0 : Int → Option R) (k0_r : Int → Int → Option R) (rec0 : (List Tree) → Int → Int → Option R) (s0 : (List Tree)) (s1 : Int) (s2 : Int) : Option R :=
  bif (decide (s2 < (s0.length : Int))) then
    bif (decide (0 ≤ s2) && decide (s2 < (s0.length : Int))) then
      (self24 (listAt s0 (Ty.dflt (.st 1)) s2.toNat) s1).bind fun y4 =>
      bif (decide (y4 < (0 : Int))) then
        k0_r y4 (-1 : Int)
      else rec0 s0 y4 (wi (s2 + (1 : Int)))
    else none
  else k0_e0 s1
def f48.s0 {R : Type} (L N : Nat) (self24 : Tree → Int → Option (Int)) (self48 : (List Tree) → Int → Option (Int)) (k0_e0 : Int → Option R) (k0_r : Int → Int → Option R) (rec0 : (List Tree) → Int → Int → Option R) (s0 : (List Tree)) (s1 : Int) (s2 : Int) : Option R :=
  f48.s0' L N self24 self48 k0_e0 k0_r rec0 s0 s1 s2
def f48.l0 {R : Type} (L N : Nat) (self24 : Tree → Int → Option (Int)) (self48 : (List Tree) → Int → Option (Int)) (k0_e0 : Int → Option R) (k0_r : Int → Int → Option R) : Nat → (List Tree) → Int → Int → Option R
  | 0, _, _, _ => none
  | n + 1, s0, s1, s2 => f48.s0 L N self24 self48 k0_e0 k0_r (f48.l0 L N self24 self48 k0_e0 k0_r n) s0 s1 s2
def f48.T0 (s0 : (List Tree)) (s1 : Int) (s2 : Int) : T := mkT 27 [(0, (.tv (.sl (.st 1)) s0)), (1, (.tv i64 s1)), (5, (.tv i64 s2))]
def f48.H0 (s0 : (List Tree)) (s1 : Int) (s2 : Int) : H := []
def f48.T0_e0 (z3 : Int) : T := mkT 27 [(1, (.tv i64 z3))]
def f48.H0_e0 (z3 : Int) : H := []
def f48.T0_r (z5 : Int) (z6 : Int) : T := mkT 27 [(1, (.tv i64 z5)), (4, (.tv i64 z6))]
def f48.H0_r (z5 : Int) (z6 : Int) : H := []
def f48.p0_e0' {R : Type} (L N : Nat) (self24 : Tree → Int → Option (Int)) (self48 : (List Tree) → Int → Option (Int)) (k : Int → Option R) (z3 : Int) : Option R :=
  k z3
def f48.p0_e0 {R : Type} (L N : Nat) (self24 : Tree → Int → Option (Int)) (self48 : (List Tree) → Int → Option (Int)) (k : Int → Option R) (z3 : Int) : Option R :=
  f48.p0_e0' L N self24 self48 k z3
def f48.p0_r' {R : Type} (L N : Nat) (self24 : Tree → Int → Option (Int)) (self48 : (List Tree) → Int → Option (Int)) (k : Int → Option R) (z5 : Int) (z6 : Int) : Option R :=
  k z6
def f48.p0_r {R : Type} (L N : Nat) (self24 : Tree → Int → Option (Int)) (self48 : (List Tree) → Int → Option (Int)) (k : Int → Option R) (z5 : Int) (z6 : Int) : Option R :=
  f48.p0_r' L N self24 self48 k z5 z6
def f48.b' {R : Type} (L N : Nat) (self24 : Tree → Int → Option (Int)) (self48 : (List Tree) → Int → Option (Int)) (k : Int → Option R) (w0 : (List Tree) → Int → Int → Option R) (x0 : (List Tree)) (x1 : Int) : Option R :=
  bif (decide ((wi (x1 - (x0.length : Int))) < (0 : Int))) then
    k (-1 : Int)
  else w0 x0 (wi (x1 - (x0.length : Int))) (0 : Int)
def f48.b {R : Type} (L N : Nat) (self24 : Tree → Int → Option (Int)) (self48 : (List Tree) → Int → Option (Int)) (k : Int → Option R) (x0 : (List Tree)) (x1 : Int) : Option R :=
  f48.b' L N self24 self48 k (fun s0 s1 s2 => f48.l0 L N self24 self48 (fun z3 => f48.p0_e0 L N self24 self48 k z3) (fun z5 z6 => f48.p0_r L N self24 self48 k z5 z6) L s0 s1 s2) x0 x1
mutual
def f24 (L N : Nat) : Nat → Tree → Int → Option (Int)
  | 0, _, _ => none
  | n + 1, x0, x1 => f24.b L N (f24 L N n) (f48 L N n) some x0 x1
def f48 (L N : Nat) : Nat → (List Tree) → Int → Option (Int)
  | 0, _, _ => none
  | n + 1, x0, x1 => f48.b L N (f24 L N n) (f48 L N n) some x0 x1
end
def f24.ent (L N m : Nat) (args : List AV) (vw : View) (site : Nat) : Ans := match roD [(.st 1), i64] vw args with
  | some d => ⟨Int, f24 L N m d.1 d.2.1, fun y => ((.tv i64 y), [], [])⟩
  | none => Ans.no
def f48.ent (L N m : Nat) (args : List AV) (vw : View) (site : Nat) : Ans := match roD [(.sl (.st 1)), i64] vw args with
  | some d => ⟨Int, f48 L N m d.1 d.2.1, fun y => ((.tv i64 y), [], [])⟩
  | none => Ans.no
def Φ24s (L N m : Nat) : Tells := (addT (addT (Φ3 L N) 24 (f24.ent L N m)) 48 (f48.ent L N m))
noncomputable def E24 (L N m : Nat) : Env := { P := Try.prog, ty := tyOf, Φ := Φ24s L N m, inl := fun _ => false, live := lives, liveX := livesX, L := L }
theorem f24.b_pre {R : Type} (L N m : Nat) (κ : AV → Option R) (x0 : Tree) (x1 : Int) :
    evBody (E24 L N m) (evCallI (E24 L N m) 0 1000) 1000 24 Try.f24 [(.tv (.st 1) x0), (.tv i64 x1)] [] [] (finC (.one i64) κ)
    = f24.b' L N (f24 L N m) (f48 L N m) (fun a0 => κ (.tv i64 a0)) x0 x1 := by kernel_rfl
theorem f24.b_eq {R : Type} (L N m : Nat) (κ : AV → Option R) (x0 : Tree) (x1 : Int) :
    evBody (E24 L N m) (evCallI (E24 L N m) 0 1000) 1000 24 Try.f24 [(.tv (.st 1) x0), (.tv i64 x1)] [] [] (finC (.one i64) κ)
    = f24.b L N (f24 L N m) (f48 L N m) (fun a0 => κ (.tv i64 a0)) x0 x1 := by
  rw [f24.b_pre]
  unfold f24.b
  rfl
noncomputable def f48.c0 : Code := loopAt 0 (codeOf Try.f48)
theorem f48.s0_pre {R : Type} (L N m : Nat) (κ : Ex → T → H → Option R) (rec : T → H → Option R) (s0 : (List Tree)) (s1 : Int) (s2 : Int) :
    evRd (E24 L N m) (evCallI (E24 L N m) 0 1000) 1000 48 27 0 f48.c0 κ rec (f48.T0 s0 s1 s2) (f48.H0 s0 s1 s2)
    = f48.s0' L N (f24 L N m) (f48 L N m) (fun z3 => κ (.exit 0) (f48.T0_e0 z3) (f48.H0_e0 z3)) (fun z5 z6 => κ .ret (f48.T0_r z5 z6) (f48.H0_r z5 z6)) (fun s0 s1 s2 => rec (f48.T0 s0 s1 s2) (f48.H0 s0 s1 s2)) s0 s1 s2 := by kernel_rfl
theorem f48.s0_eq {R : Type} (L N m : Nat) (κ : Ex → T → H → Option R) (rec : T → H → Option R) (s0 : (List Tree)) (s1 : Int) (s2 : Int) :
    evRd (E24 L N m) (evCallI (E24 L N m) 0 1000) 1000 48 27 0 f48.c0 κ rec (f48.T0 s0 s1 s2) (f48.H0 s0 s1 s2)
    = f48.s0 L N (f24 L N m) (f48 L N m) (fun z3 => κ (.exit 0) (f48.T0_e0 z3) (f48.H0_e0 z3)) (fun z5 z6 => κ .ret (f48.T0_r z5 z6) (f48.H0_r z5 z6)) (fun s0 s1 s2 => rec (f48.T0 s0 s1 s2) (f48.H0 s0 s1 s2)) s0 s1 s2 := by
  rw [f48.s0_pre]
  unfold f48.s0
  rfl
theorem f48.l0_eq {R : Type} (L N m : Nat) (κ : Ex → T → H → Option R) : ∀ (n : Nat) (s0 : (List Tree)) (s1 : Int) (s2 : Int),
    evLp (E24 L N m) (evCallI (E24 L N m) 0 1000) 1000 48 27 0 f48.c0 κ n (f48.T0 s0 s1 s2) (f48.H0 s0 s1 s2)
    = f48.l0 L N (f24 L N m) (f48 L N m) (fun z3 => κ (.exit 0) (f48.T0_e0 z3) (f48.H0_e0 z3)) (fun z5 z6 => κ .ret (f48.T0_r z5 z6) (f48.H0_r z5 z6)) n s0 s1 s2 := by
  intro n
  induction n with
  | zero => intros; rfl
  | succ n ih =>
    intro s0 s1 s2
    rw [evLp_succ, f48.s0_eq]
    simp only [ih]
    rfl
theorem f48.p0_e0_pre {R : Type} (L N m : Nat) (κ : AV → Option R) (z3 : Int) :
    (contAt (E24 L N m) (evCallI (E24 L N m) 0 1000) 1000 48 27 0 (codeOf Try.f48) (finK (E24 L N m) 1000 Try.f48 (finC (.one i64) κ))) (.exit 0) (f48.T0_e0 z3) (f48.H0_e0 z3)
    = f48.p0_e0' L N (f24 L N m) (f48 L N m) (fun a0 => κ (.tv i64 a0)) z3 := by kernel_rfl
theorem f48.p0_e0_eq {R : Type} (L N m : Nat) (κ : AV → Option R) (z3 : Int) :
    (contAt (E24 L N m) (evCallI (E24 L N m) 0 1000) 1000 48 27 0 (codeOf Try.f48) (finK (E24 L N m) 1000 Try.f48 (finC (.one i64) κ))) (.exit 0) (f48.T0_e0 z3) (f48.H0_e0 z3)
    = f48.p0_e0 L N (f24 L N m) (f48 L N m) (fun a0 => κ (.tv i64 a0)) z3 := by
  rw [f48.p0_e0_pre]
  unfold f48.p0_e0
  rfl
theorem f48.p0_r_pre {R : Type} (L N m : Nat) (κ : AV → Option R) (z5 : Int) (z6 : Int) :
    (contAt (E24 L N m) (evCallI (E24 L N m) 0 1000) 1000 48 27 0 (codeOf Try.f48) (finK (E24 L N m) 1000 Try.f48 (finC (.one i64) κ))) .ret (f48.T0_r z5 z6) (f48.H0_r z5 z6)
    = f48.p0_r' L N (f24 L N m) (f48 L N m) (fun a0 => κ (.tv i64 a0)) z5 z6 := by kernel_rfl
theorem f48.p0_r_eq {R : Type} (L N m : Nat) (κ : AV → Option R) (z5 : Int) (z6 : Int) :
    (contAt (E24 L N m) (evCallI (E24 L N m) 0 1000) 1000 48 27 0 (codeOf Try.f48) (finK (E24 L N m) 1000 Try.f48 (finC (.one i64) κ))) .ret (f48.T0_r z5 z6) (f48.H0_r z5 z6)
    = f48.p0_r L N (f24 L N m) (f48 L N m) (fun a0 => κ (.tv i64 a0)) z5 z6 := by
  rw [f48.p0_r_pre]
  unfold f48.p0_r
  rfl
theorem f48.b_pre {R : Type} (L N m : Nat) (κ : AV → Option R) (x0 : (List Tree)) (x1 : Int) :
    evBody (E24 L N m) (evCallI (E24 L N m) 0 1000) 1000 48 Try.f48 [(.tv (.sl (.st 1)) x0), (.tv i64 x1)] [] [] (finC (.one i64) κ)
    = f48.b' L N (f24 L N m) (f48 L N m) (fun a0 => κ (.tv i64 a0)) (fun s0 s1 s2 => evLp (E24 L N m) (evCallI (E24 L N m) 0 1000) 1000 48 27 0 f48.c0 (contAt (E24 L N m) (evCallI (E24 L N m) 0 1000) 1000 48 27 0 (codeOf Try.f48) (finK (E24 L N m) 1000 Try.f48 (finC (.one i64) κ))) L (f48.T0 s0 s1 s2) (f48.H0 s0 s1 s2)) x0 x1 := by kernel_rfl
theorem f48.b_eq {R : Type} (L N m : Nat) (κ : AV → Option R) (x0 : (List Tree)) (x1 : Int) :
    evBody (E24 L N m) (evCallI (E24 L N m) 0 1000) 1000 48 Try.f48 [(.tv (.sl (.st 1)) x0), (.tv i64 x1)] [] [] (finC (.one i64) κ)
    = f48.b L N (f24 L N m) (f48 L N m) (fun a0 => κ (.tv i64 a0)) x0 x1 := by
  rw [f48.b_pre]
  unfold f48.b
  simp only [f48.l0_eq, f48.p0_e0_eq, f48.p0_r_eq]
theorem f24.b'_nat {R R' : Type} (j : R → Option R') (L N : Nat) (self24 : Tree → Int → Option (Int)) (self48 : (List Tree) → Int → Option (Int)) (k : Int → Option R) (x0 : Tree) (x1 : Int) :
    f24.b' L N self24 self48 (fun a0 => (k a0).bind j) x0 x1 = (f24.b' L N self24 self48 k x0 x1).bind j := by
  unfold f24.b'
  repeat' (first | (with_reducible refine cond_nat ?_ ?_) | (with_reducible refine bind_nat fun _ => ?_) | rfl)
theorem f24.b_nat {R R' : Type} (j : R → Option R') (L N : Nat) (self24 : Tree → Int → Option (Int)) (self48 : (List Tree) → Int → Option (Int)) (k : Int → Option R) (x0 : Tree) (x1 : Int) :
    f24.b L N self24 self48 (fun a0 => (k a0).bind j) x0 x1 = (f24.b L N self24 self48 k x0 x1).bind j := by
  unfold f24.b
  exact f24.b'_nat ..
theorem f48.s0'_nat {R R' : Type} (j : R → Option R') (L N : Nat) (self24 : Tree → Int → Option (Int)) (self48 : (List Tree) → Int → Option (Int)) (k0_e0 : Int → Option R) (k0_r : Int → Int → Option R) (rec0 : (List Tree) → Int → Int → Option R) (s0 : (List Tree)) (s1 : Int) (s2 : Int) :
    f48.s0' L N self24 self48 (fun a0 => (k0_e0 a0).bind j) (fun a0 a1 => (k0_r a0 a1).bind j) (fun a0 a1 a2 => (rec0 a0 a1 a2).bind j) s0 s1 s2 = (f48.s0' L N self24 self48 k0_e0 k0_r rec0 s0 s1 s2).bind j := by
  unfold f48.s0'
  repeat' (first | (with_reducible refine cond_nat ?_ ?_) | (with_reducible refine bind_nat fun _ => ?_) | rfl)
theorem f48.s0_nat {R R' : Type} (j : R → Option R') (L N : Nat) (self24 : Tree → Int → Option (Int)) (self48 : (List Tree) → Int → Option (Int)) (k0_e0 : Int → Option R) (k0_r : Int → Int → Option R) (rec0 : (List Tree) → Int → Int → Option R) (s0 : (List Tree)) (s1 : Int) (s2 : Int) :
    f48.s0 L N self24 self48 (fun a0 => (k0_e0 a0).bind j) (fun a0 a1 => (k0_r a0 a1).bind j) (fun a0 a1 a2 => (rec0 a0 a1 a2).bind j) s0 s1 s2 = (f48.s0 L N self24 self48 k0_e0 k0_r rec0 s0 s1 s2).bind j := by
  unfold f48.s0
  exact f48.s0'_nat ..
theorem f48.l0_nat {R R' : Type} (j : R → Option R') (L N : Nat) (self24 : Tree → Int → Option (Int)) (self48 : (List Tree) → Int → Option (Int)) (k0_e0 : Int → Option R) (k0_r : Int → Int → Option R) : ∀ (n : Nat) (s0 : (List Tree)) (s1 : Int) (s2 : Int),
    f48.l0 L N self24 self48 (fun a0 => (k0_e0 a0).bind j) (fun a0 a1 => (k0_r a0 a1).bind j) n s0 s1 s2 = (f48.l0 L N self24 self48 k0_e0 k0_r n s0 s1 s2).bind j := by
  intro n
  induction n with
  | zero => intros; rfl
  | succ n ih =>
    intro s0 s1 s2
    show f48.s0 L N self24 self48 (fun a0 => (k0_e0 a0).bind j) (fun a0 a1 => (k0_r a0 a1).bind j) (f48.l0 L N self24 self48 (fun a0 => (k0_e0 a0).bind j) (fun a0 a1 => (k0_r a0 a1).bind j) n) s0 s1 s2 = _
    rw [show f48.l0 L N self24 self48 (fun a0 => (k0_e0 a0).bind j) (fun a0 a1 => (k0_r a0 a1).bind j) n = (fun s0 s1 s2 => (f48.l0 L N self24 self48 k0_e0 k0_r n s0 s1 s2).bind j) from funext fun s0 => funext fun s1 => funext fun s2 => ih s0 s1 s2]
    exact f48.s0_nat ..
theorem f48.p0_e0'_nat {R R' : Type} (j : R → Option R') (L N : Nat) (self24 : Tree → Int → Option (Int)) (self48 : (List Tree) → Int → Option (Int)) (k : Int → Option R) (z3 : Int) :
    f48.p0_e0' L N self24 self48 (fun a0 => (k a0).bind j) z3 = (f48.p0_e0' L N self24 self48 k z3).bind j := by
  unfold f48.p0_e0'
  repeat' (first | (with_reducible refine cond_nat ?_ ?_) | (with_reducible refine bind_nat fun _ => ?_) | rfl)
theorem f48.p0_e0_nat {R R' : Type} (j : R → Option R') (L N : Nat) (self24 : Tree → Int → Option (Int)) (self48 : (List Tree) → Int → Option (Int)) (k : Int → Option R) (z3 : Int) :
    f48.p0_e0 L N self24 self48 (fun a0 => (k a0).bind j) z3 = (f48.p0_e0 L N self24 self48 k z3).bind j := by
  unfold f48.p0_e0
  exact f48.p0_e0'_nat ..
theorem f48.p0_r'_nat {R R' : Type} (j : R → Option R') (L N : Nat) (self24 : Tree → Int → Option (Int)) (self48 : (List Tree) → Int → Option (Int)) (k : Int → Option R) (z5 : Int) (z6 : Int) :
    f48.p0_r' L N self24 self48 (fun a0 => (k a0).bind j) z5 z6 = (f48.p0_r' L N self24 self48 k z5 z6).bind j := by
  unfold f48.p0_r'
  repeat' (first | (with_reducible refine cond_nat ?_ ?_) | (with_reducible refine bind_nat fun _ => ?_) | rfl)
theorem f48.p0_r_nat {R R' : Type} (j : R → Option R') (L N : Nat) (self24 : Tree → Int → Option (Int)) (self48 : (List Tree) → Int → Option (Int)) (k : Int → Option R) (z5 : Int) (z6 : Int) :
    f48.p0_r L N self24 self48 (fun a0 => (k a0).bind j) z5 z6 = (f48.p0_r L N self24 self48 k z5 z6).bind j := by
  unfold f48.p0_r
  exact f48.p0_r'_nat ..
theorem f48.b'_nat {R R' : Type} (j : R → Option R') (L N : Nat) (self24 : Tree → Int → Option (Int)) (self48 : (List Tree) → Int → Option (Int)) (k : Int → Option R) (w0 : (List Tree) → Int → Int → Option R) (x0 : (List Tree)) (x1 : Int) :
    f48.b' L N self24 self48 (fun a0 => (k a0).bind j) (fun a0 a1 a2 => (w0 a0 a1 a2).bind j) x0 x1 = (f48.b' L N self24 self48 k w0 x0 x1).bind j := by
  unfold f48.b'
  repeat' (first | (with_reducible refine cond_nat ?_ ?_) | (with_reducible refine bind_nat fun _ => ?_) | rfl)
theorem f48.b_nat {R R' : Type} (j : R → Option R') (L N : Nat) (self24 : Tree → Int → Option (Int)) (self48 : (List Tree) → Int → Option (Int)) (k : Int → Option R) (x0 : (List Tree)) (x1 : Int) :
    f48.b L N self24 self48 (fun a0 => (k a0).bind j) x0 x1 = (f48.b L N self24 self48 k x0 x1).bind j := by
  unfold f48.b
  simp only [f48.l0_nat, f48.p0_e0_nat, f48.p0_r_nat]
  exact f48.b'_nat ..
theorem f24.ok (L N m : Nat) (hΦ : TellsOk Try.prog (Φ24s L N m)) : EntOk Try.prog 24 (f24.ent L N (m + 1)) := by
  intro args vw site h
  unfold f24.ent
  split
  · rename_i d ha
    intro y hy hs
    refine call_ro (dep := 1000) (E := (E24 L N m)) (rs := (.one i64)) (v := (.tv i64 y)) (sound_of hΦ) okP (callI_sound (sound_of hΦ) okP 0 1000) (f := Try.f24) rfl hs ha ?_ rfl site
    refine (f24.b_eq L N m some d.1 d.2.1).trans ?_
    refine ((f24.b_nat (fun y => (some (.tv i64 y) : Option AV)) L N (f24 L N m) (f48 L N m) some d.1 d.2.1)).trans ?_
    rw [show f24.b L N (f24 L N m) (f48 L N m) some d.1 d.2.1 = some y from hy]
    rfl
  · intro y hy
    cases hy
theorem f48.ok (L N m : Nat) (hΦ : TellsOk Try.prog (Φ24s L N m)) : EntOk Try.prog 48 (f48.ent L N (m + 1)) := by
  intro args vw site h
  unfold f48.ent
  split
  · rename_i d ha
    intro y hy hs
    refine call_ro (dep := 1000) (E := (E24 L N m)) (rs := (.one i64)) (v := (.tv i64 y)) (sound_of hΦ) okP (callI_sound (sound_of hΦ) okP 0 1000) (f := Try.f48) rfl hs ha ?_ rfl site
    refine (f48.b_eq L N m some d.1 d.2.1).trans ?_
    refine ((f48.b_nat (fun y => (some (.tv i64 y) : Option AV)) L N (f24 L N m) (f48 L N m) some d.1 d.2.1)).trans ?_
    rw [show f48.b L N (f24 L N m) (f48 L N m) some d.1 d.2.1 = some y from hy]
    rfl
  · intro y hy
    cases hy
theorem Φ24s_ok (L N : Nat) : ∀ m, TellsOk Try.prog (Φ24s L N m) := by
  intro m
  induction m with
  | zero => exact (addT_ok (addT_ok (Φ3_ok L N) (fun args vw site h => by unfold f24.ent; split <;> (intro y hy; cases hy))) (fun args vw site h => by unfold f48.ent; split <;> (intro y hy; cases hy)))
  | succ m ih => exact (addT_ok (addT_ok (Φ3_ok L N) (f24.ok L N m ih)) (f48.ok L N m ih))
def Φ24 (L N : Nat) : Tells := (addT (addT (Φ3 L N) 24 (f24.ent L N N)) 48 (f48.ent L N N))
theorem Φ24_ok (L N : Nat) : TellsOk Try.prog (Φ24 L N) := Φ24s_ok L N N
def f49.b' {R : Type} (L N : Nat) (k : Bool → Option R) (x0 : Int) (x1 : Int) (x2 : Int) : Option R :=
  bif (decide (x0 ≥ x1)) then
    k (decide (x0 ≤ x2))
  else k false
def f49.b {R : Type} (L N : Nat) (k : Bool → Option R) (x0 : Int) (x1 : Int) (x2 : Int) : Option R :=
  f49.b' L N k x0 x1 x2
def f49 (L N : Nat) (x0 : Int) (x1 : Int) (x2 : Int) : Option (Bool) := f49.b L N some x0 x1 x2
def f49.ent (L N : Nat) (args : List AV) (vw : View) (site : Nat) : Ans := match roD [i64, i64, i64] vw args with
  | some d => ⟨Bool, f49 L N d.1 d.2.1 d.2.2.1, fun y => ((.tv .bool y), [], [])⟩
  | none => Ans.no
noncomputable def E49 (L N : Nat) : Env := { P := Try.prog, ty := tyOf, Φ := (Φ24 L N), inl := fun _ => false, live := lives, liveX := livesX, L := L }
theorem f49.b_pre {R : Type} (L N : Nat) (κ : AV → Option R) (x0 : Int) (x1 : Int) (x2 : Int) :
    evBody (E49 L N) (evCallI (E49 L N) 0 1000) 1000 49 Try.f49 [(.tv i64 x0), (.tv i64 x1), (.tv i64 x2)] [] [] (finC (.one .bool) κ)
    = f49.b' L N (fun a0 => κ (.tv .bool a0)) x0 x1 x2 := by kernel_rfl
theorem f49.b_eq {R : Type} (L N : Nat) (κ : AV → Option R) (x0 : Int) (x1 : Int) (x2 : Int) :
    evBody (E49 L N) (evCallI (E49 L N) 0 1000) 1000 49 Try.f49 [(.tv i64 x0), (.tv i64 x1), (.tv i64 x2)] [] [] (finC (.one .bool) κ)
    = f49.b L N (fun a0 => κ (.tv .bool a0)) x0 x1 x2 := by
  rw [f49.b_pre]
  unfold f49.b
  rfl
theorem f49.b'_nat {R R' : Type} (j : R → Option R') (L N : Nat) (k : Bool → Option R) (x0 : Int) (x1 : Int) (x2 : Int) :
    f49.b' L N (fun a0 => (k a0).bind j) x0 x1 x2 = (f49.b' L N k x0 x1 x2).bind j := by
  unfold f49.b'
  repeat' (first | (with_reducible refine cond_nat ?_ ?_) | (with_reducible refine bind_nat fun _ => ?_) | rfl)
theorem f49.b_nat {R R' : Type} (j : R → Option R') (L N : Nat) (k : Bool → Option R) (x0 : Int) (x1 : Int) (x2 : Int) :
    f49.b L N (fun a0 => (k a0).bind j) x0 x1 x2 = (f49.b L N k x0 x1 x2).bind j := by
  unfold f49.b
  exact f49.b'_nat ..
theorem f49.ok (L N : Nat) (hΦ : TellsOk Try.prog ((Φ24 L N))) : EntOk Try.prog 49 (f49.ent L N) := by
  intro args vw site h
  unfold f49.ent
  split
  · rename_i d ha
    intro y hy hs
    refine call_ro (dep := 1000) (E := (E49 L N)) (rs := (.one .bool)) (v := (.tv .bool y)) (sound_of hΦ) okP (callI_sound (sound_of hΦ) okP 0 1000) (f := Try.f49) rfl hs ha ?_ rfl site
    refine (f49.b_eq L N some d.1 d.2.1 d.2.2.1).trans ?_
    refine ((f49.b_nat (fun y => (some (.tv .bool y) : Option AV)) L N some d.1 d.2.1 d.2.2.1)).trans ?_
    rw [show f49.b L N some d.1 d.2.1 d.2.2.1 = some y from hy]
    rfl
  · intro y hy
    cases hy
def Φ49 (L N : Nat) : Tells := (addT (Φ24 L N) 49 (f49.ent L N))
theorem Φ49_ok (L N : Nat) : TellsOk Try.prog (Φ49 L N) := addT_ok (Φ24_ok L N) (f49.ok L N (Φ24_ok L N))
def f46.b' {R : Type} (L N : Nat) (k : Bool → Option R) (x0 : Int) : Option R :=
  (f49 L N x0 (-4 : Int) (4 : Int)).bind fun y0 =>
  k y0
def f46.b {R : Type} (L N : Nat) (k : Bool → Option R) (x0 : Int) : Option R :=
  f46.b' L N k x0
def f46 (L N : Nat) (x0 : Int) : Option (Bool) := f46.b L N some x0
def f46.ent (L N : Nat) (args : List AV) (vw : View) (site : Nat) : Ans := match roD [i64] vw args with
  | some d => ⟨Bool, f46 L N d.1, fun y => ((.tv .bool y), [], [])⟩
  | none => Ans.no
noncomputable def E46 (L N : Nat) : Env := { P := Try.prog, ty := tyOf, Φ := (Φ49 L N), inl := fun _ => false, live := lives, liveX := livesX, L := L }
theorem f46.b_pre {R : Type} (L N : Nat) (κ : AV → Option R) (x0 : Int) :
    evBody (E46 L N) (evCallI (E46 L N) 0 1000) 1000 46 Try.f46 [(.tv i64 x0)] [] [] (finC (.one .bool) κ)
    = f46.b' L N (fun a0 => κ (.tv .bool a0)) x0 := by kernel_rfl
theorem f46.b_eq {R : Type} (L N : Nat) (κ : AV → Option R) (x0 : Int) :
    evBody (E46 L N) (evCallI (E46 L N) 0 1000) 1000 46 Try.f46 [(.tv i64 x0)] [] [] (finC (.one .bool) κ)
    = f46.b L N (fun a0 => κ (.tv .bool a0)) x0 := by
  rw [f46.b_pre]
  unfold f46.b
  rfl
theorem f46.b'_nat {R R' : Type} (j : R → Option R') (L N : Nat) (k : Bool → Option R) (x0 : Int) :
    f46.b' L N (fun a0 => (k a0).bind j) x0 = (f46.b' L N k x0).bind j := by
  unfold f46.b'
  repeat' (first | (with_reducible refine cond_nat ?_ ?_) | (with_reducible refine bind_nat fun _ => ?_) | rfl)
theorem f46.b_nat {R R' : Type} (j : R → Option R') (L N : Nat) (k : Bool → Option R) (x0 : Int) :
    f46.b L N (fun a0 => (k a0).bind j) x0 = (f46.b L N k x0).bind j := by
  unfold f46.b
  exact f46.b'_nat ..
theorem f46.ok (L N : Nat) (hΦ : TellsOk Try.prog ((Φ49 L N))) : EntOk Try.prog 46 (f46.ent L N) := by
  intro args vw site h
  unfold f46.ent
  split
  · rename_i d ha
    intro y hy hs
    refine call_ro (dep := 1000) (E := (E46 L N)) (rs := (.one .bool)) (v := (.tv .bool y)) (sound_of hΦ) okP (callI_sound (sound_of hΦ) okP 0 1000) (f := Try.f46) rfl hs ha ?_ rfl site
    refine (f46.b_eq L N some d.1).trans ?_
    refine ((f46.b_nat (fun y => (some (.tv .bool y) : Option AV)) L N some d.1)).trans ?_
    rw [show f46.b L N some d.1 = some y from hy]
    rfl
  · intro y hy
    cases hy
def Φ46 (L N : Nat) : Tells := (addT (Φ49 L N) 46 (f46.ent L N))
theorem Φ46_ok (L N : Nat) : TellsOk Try.prog (Φ46 L N) := addT_ok (Φ49_ok L N) (f46.ok L N (Φ49_ok L N))
def f50.s0' {R : Type} (L N : Nat) (self50 : Tree → Option (Int)) (k0_e0 : Int → Option R) (k0_r : Int → Int → Option R) (rec0 : Int → Int → Int → Int → (List Tree) → Option R) (s9 : Int) (s10 : Int) (s11 : Int) (s12 : Int) (s13 : (List Tree)) : Option R :=
  bif (decide (s10 < (s13.length : Int))) then
    bif (decide (0 ≤ s10) && decide (s10 < (s13.length : Int))) then
      (self50 (listAt s13 (Ty.dflt (.st 1)) s10.toNat)).bind fun y15 =>
      bif (y15 == (0 : Int)) then
        k0_r (0 : Int) s9
      else rec0 (bif decide ((wi (s9 + y15)) < (1000 : Int)) then (wi (s9 + y15)) else (1000 : Int)) (wi (s10 + (1 : Int))) s11 s12 s13
    else none
  else k0_e0 s9
def f50.s0 {R : Type} (L N : Nat) (self50 : Tree → Option (Int)) (k0_e0 : Int → Option R) (k0_r : Int → Int → Option R) (rec0 : Int → Int → Int → Int → (List Tree) → Option R) (s9 : Int) (s10 : Int) (s11 : Int) (s12 : Int) (s13 : (List Tree)) : Option R :=
  f50.s0' L N self50 k0_e0 k0_r rec0 s9 s10 s11 s12 s13
def f50.l0 {R : Type} (L N : Nat) (self50 : Tree → Option (Int)) (k0_e0 : Int → Option R) (k0_r : Int → Int → Option R) : Nat → Int → Int → Int → Int → (List Tree) → Option R
  | 0, _, _, _, _, _ => none
  | n + 1, s9, s10, s11, s12, s13 => f50.s0 L N self50 k0_e0 k0_r (f50.l0 L N self50 k0_e0 k0_r n) s9 s10 s11 s12 s13
def f50.T0 (s9 : Int) (s10 : Int) (s11 : Int) (s12 : Int) (s13 : (List Tree)) : T := mkT 59 [(1, (.ptr 1001 0)), (4, (.tv i64 s9)), (5, (.tv i64 s10))]
def f50.H0 (s9 : Int) (s10 : Int) (s11 : Int) (s12 : Int) (s13 : (List Tree)) : H := [(1001, (.box [(.tv i64 s11), (.tv i64 s12), (.tv (.sl (.st 1)) s13)]))]
def f50.T0_e0 (z14 : Int) : T := mkT 59 [(4, (.tv i64 z14))]
def f50.H0_e0 (z14 : Int) : H := []
def f50.T0_r (z16 : Int) (z17 : Int) : T := mkT 59 [(2, (.tv i64 z16)), (4, (.tv i64 z17))]
def f50.H0_r (z16 : Int) (z17 : Int) : H := []
def f50.p0_e0' {R : Type} (L N : Nat) (self50 : Tree → Option (Int)) (k : Int → Option R) (z14 : Int) : Option R :=
  k z14
def f50.p0_e0 {R : Type} (L N : Nat) (self50 : Tree → Option (Int)) (k : Int → Option R) (z14 : Int) : Option R :=
  f50.p0_e0' L N self50 k z14
def f50.p0_r' {R : Type} (L N : Nat) (self50 : Tree → Option (Int)) (k : Int → Option R) (z16 : Int) (z17 : Int) : Option R :=
  k z16
def f50.p0_r {R : Type} (L N : Nat) (self50 : Tree → Option (Int)) (k : Int → Option R) (z16 : Int) (z17 : Int) : Option R :=
  f50.p0_r' L N self50 k z16 z17
def f50.j0' {R : Type} (L N : Nat) (self50 : Tree → Option (Int)) (k : Int → Option R) (w0 : Int → Int → Int → Int → (List Tree) → Option R) (v6 : Int) (v7 : Int) (v8 : (List Tree)) : Option R :=
  w0 (1 : Int) (0 : Int) v6 v7 v8
def f50.b' {R : Type} (L N : Nat) (self50 : Tree → Option (Int)) (k : Int → Option R) (w0 : Int → Int → Int → Int → (List Tree) → Option R) (x0 : Tree) : Option R :=
  (f49 L N x0.op (0 : Int) (3 : Int)).bind fun y0 =>
  bif (!y0) then
    k (0 : Int)
  else bif (decide (0 ≤ x0.op) && decide (x0.op < (([(0 : Int), (1 : Int), (2 : Int), (1 : Int)] : (List Int)).length : Int))) then
    bif ((x0.parts.length : Int) != (listAt ([(0 : Int), (1 : Int), (2 : Int), (1 : Int)] : (List Int)) (0 : Int) x0.op.toNat)) then
      k (0 : Int)
    else (f46 L N x0.n).bind fun y1 =>
    bif (!y1) then
      k (0 : Int)
    else bif (x0.op != (3 : Int)) then
      bif (x0.n != (0 : Int)) then
        k (0 : Int)
      else f50.j0' L N self50 k w0 x0.op x0.n x0.parts
    else f50.j0' L N self50 k w0 x0.op x0.n x0.parts
  else none
def f50.b {R : Type} (L N : Nat) (self50 : Tree → Option (Int)) (k : Int → Option R) (x0 : Tree) : Option R :=
  f50.b' L N self50 k (fun s9 s10 s11 s12 s13 => f50.l0 L N self50 (fun z14 => f50.p0_e0 L N self50 k z14) (fun z16 z17 => f50.p0_r L N self50 k z16 z17) L s9 s10 s11 s12 s13) x0
def f50 (L N : Nat) : Nat → Tree → Option (Int)
  | 0, _ => none
  | n + 1, x0 => f50.b L N (f50 L N n) some x0
def f50.ent (L N m : Nat) (args : List AV) (vw : View) (site : Nat) : Ans := match roD [(.st 1)] vw args with
  | some d => ⟨Int, f50 L N m d.1, fun y => ((.tv i64 y), [], [])⟩
  | none => Ans.no
def Φ50s (L N m : Nat) : Tells := (addT (Φ46 L N) 50 (f50.ent L N m))
noncomputable def E50 (L N m : Nat) : Env := { P := Try.prog, ty := tyOf, Φ := Φ50s L N m, inl := fun _ => false, live := lives, liveX := livesX, L := L }
noncomputable def f50.c0 : Code := loopAt 0 (codeOf Try.f50)
theorem f50.s0_pre {R : Type} (L N m : Nat) (κ : Ex → T → H → Option R) (rec : T → H → Option R) (s9 : Int) (s10 : Int) (s11 : Int) (s12 : Int) (s13 : (List Tree)) :
    evRd (E50 L N m) (evCallI (E50 L N m) 0 1000) 1000 50 59 0 f50.c0 κ rec (f50.T0 s9 s10 s11 s12 s13) (f50.H0 s9 s10 s11 s12 s13)
    = f50.s0' L N (f50 L N m) (fun z14 => κ (.exit 0) (f50.T0_e0 z14) (f50.H0_e0 z14)) (fun z16 z17 => κ .ret (f50.T0_r z16 z17) (f50.H0_r z16 z17)) (fun s9 s10 s11 s12 s13 => rec (f50.T0 s9 s10 s11 s12 s13) (f50.H0 s9 s10 s11 s12 s13)) s9 s10 s11 s12 s13 := by kernel_rfl
theorem f50.s0_eq {R : Type} (L N m : Nat) (κ : Ex → T → H → Option R) (rec : T → H → Option R) (s9 : Int) (s10 : Int) (s11 : Int) (s12 : Int) (s13 : (List Tree)) :
    evRd (E50 L N m) (evCallI (E50 L N m) 0 1000) 1000 50 59 0 f50.c0 κ rec (f50.T0 s9 s10 s11 s12 s13) (f50.H0 s9 s10 s11 s12 s13)
    = f50.s0 L N (f50 L N m) (fun z14 => κ (.exit 0) (f50.T0_e0 z14) (f50.H0_e0 z14)) (fun z16 z17 => κ .ret (f50.T0_r z16 z17) (f50.H0_r z16 z17)) (fun s9 s10 s11 s12 s13 => rec (f50.T0 s9 s10 s11 s12 s13) (f50.H0 s9 s10 s11 s12 s13)) s9 s10 s11 s12 s13 := by
  rw [f50.s0_pre]
  unfold f50.s0
  rfl
theorem f50.l0_eq {R : Type} (L N m : Nat) (κ : Ex → T → H → Option R) : ∀ (n : Nat) (s9 : Int) (s10 : Int) (s11 : Int) (s12 : Int) (s13 : (List Tree)),
    evLp (E50 L N m) (evCallI (E50 L N m) 0 1000) 1000 50 59 0 f50.c0 κ n (f50.T0 s9 s10 s11 s12 s13) (f50.H0 s9 s10 s11 s12 s13)
    = f50.l0 L N (f50 L N m) (fun z14 => κ (.exit 0) (f50.T0_e0 z14) (f50.H0_e0 z14)) (fun z16 z17 => κ .ret (f50.T0_r z16 z17) (f50.H0_r z16 z17)) n s9 s10 s11 s12 s13 := by
  intro n
  induction n with
  | zero => intros; rfl
  | succ n ih =>
    intro s9 s10 s11 s12 s13
    rw [evLp_succ, f50.s0_eq]
    simp only [ih]
    rfl
theorem f50.p0_e0_pre {R : Type} (L N m : Nat) (κ : AV → Option R) (z14 : Int) :
    (contAt (E50 L N m) (evCallI (E50 L N m) 0 1000) 1000 50 59 0 (codeOf Try.f50) (finK (E50 L N m) 1000 Try.f50 (finC (.one i64) κ))) (.exit 0) (f50.T0_e0 z14) (f50.H0_e0 z14)
    = f50.p0_e0' L N (f50 L N m) (fun a0 => κ (.tv i64 a0)) z14 := by kernel_rfl
theorem f50.p0_e0_eq {R : Type} (L N m : Nat) (κ : AV → Option R) (z14 : Int) :
    (contAt (E50 L N m) (evCallI (E50 L N m) 0 1000) 1000 50 59 0 (codeOf Try.f50) (finK (E50 L N m) 1000 Try.f50 (finC (.one i64) κ))) (.exit 0) (f50.T0_e0 z14) (f50.H0_e0 z14)
    = f50.p0_e0 L N (f50 L N m) (fun a0 => κ (.tv i64 a0)) z14 := by
  rw [f50.p0_e0_pre]
  unfold f50.p0_e0
  rfl
theorem f50.p0_r_pre {R : Type} (L N m : Nat) (κ : AV → Option R) (z16 : Int) (z17 : Int) :
    (contAt (E50 L N m) (evCallI (E50 L N m) 0 1000) 1000 50 59 0 (codeOf Try.f50) (finK (E50 L N m) 1000 Try.f50 (finC (.one i64) κ))) .ret (f50.T0_r z16 z17) (f50.H0_r z16 z17)
    = f50.p0_r' L N (f50 L N m) (fun a0 => κ (.tv i64 a0)) z16 z17 := by kernel_rfl
theorem f50.p0_r_eq {R : Type} (L N m : Nat) (κ : AV → Option R) (z16 : Int) (z17 : Int) :
    (contAt (E50 L N m) (evCallI (E50 L N m) 0 1000) 1000 50 59 0 (codeOf Try.f50) (finK (E50 L N m) 1000 Try.f50 (finC (.one i64) κ))) .ret (f50.T0_r z16 z17) (f50.H0_r z16 z17)
    = f50.p0_r L N (f50 L N m) (fun a0 => κ (.tv i64 a0)) z16 z17 := by
  rw [f50.p0_r_pre]
  unfold f50.p0_r
  rfl
theorem f50.b_pre {R : Type} (L N m : Nat) (κ : AV → Option R) (x0 : Tree) :
    evBody (E50 L N m) (evCallI (E50 L N m) 0 1000) 1000 50 Try.f50 [(.tv (.st 1) x0)] [] [] (finC (.one i64) κ)
    = f50.b' L N (f50 L N m) (fun a0 => κ (.tv i64 a0)) (fun s9 s10 s11 s12 s13 => evLp (E50 L N m) (evCallI (E50 L N m) 0 1000) 1000 50 59 0 f50.c0 (contAt (E50 L N m) (evCallI (E50 L N m) 0 1000) 1000 50 59 0 (codeOf Try.f50) (finK (E50 L N m) 1000 Try.f50 (finC (.one i64) κ))) L (f50.T0 s9 s10 s11 s12 s13) (f50.H0 s9 s10 s11 s12 s13)) x0 := by kernel_rfl
theorem f50.b_eq {R : Type} (L N m : Nat) (κ : AV → Option R) (x0 : Tree) :
    evBody (E50 L N m) (evCallI (E50 L N m) 0 1000) 1000 50 Try.f50 [(.tv (.st 1) x0)] [] [] (finC (.one i64) κ)
    = f50.b L N (f50 L N m) (fun a0 => κ (.tv i64 a0)) x0 := by
  rw [f50.b_pre]
  unfold f50.b
  simp only [f50.l0_eq, f50.p0_e0_eq, f50.p0_r_eq]
theorem f50.s0'_nat {R R' : Type} (j : R → Option R') (L N : Nat) (self50 : Tree → Option (Int)) (k0_e0 : Int → Option R) (k0_r : Int → Int → Option R) (rec0 : Int → Int → Int → Int → (List Tree) → Option R) (s9 : Int) (s10 : Int) (s11 : Int) (s12 : Int) (s13 : (List Tree)) :
    f50.s0' L N self50 (fun a0 => (k0_e0 a0).bind j) (fun a0 a1 => (k0_r a0 a1).bind j) (fun a0 a1 a2 a3 a4 => (rec0 a0 a1 a2 a3 a4).bind j) s9 s10 s11 s12 s13 = (f50.s0' L N self50 k0_e0 k0_r rec0 s9 s10 s11 s12 s13).bind j := by
  unfold f50.s0'
  repeat' (first | (with_reducible refine cond_nat ?_ ?_) | (with_reducible refine bind_nat fun _ => ?_) | rfl)
theorem f50.s0_nat {R R' : Type} (j : R → Option R') (L N : Nat) (self50 : Tree → Option (Int)) (k0_e0 : Int → Option R) (k0_r : Int → Int → Option R) (rec0 : Int → Int → Int → Int → (List Tree) → Option R) (s9 : Int) (s10 : Int) (s11 : Int) (s12 : Int) (s13 : (List Tree)) :
    f50.s0 L N self50 (fun a0 => (k0_e0 a0).bind j) (fun a0 a1 => (k0_r a0 a1).bind j) (fun a0 a1 a2 a3 a4 => (rec0 a0 a1 a2 a3 a4).bind j) s9 s10 s11 s12 s13 = (f50.s0 L N self50 k0_e0 k0_r rec0 s9 s10 s11 s12 s13).bind j := by
  unfold f50.s0
  exact f50.s0'_nat ..
theorem f50.l0_nat {R R' : Type} (j : R → Option R') (L N : Nat) (self50 : Tree → Option (Int)) (k0_e0 : Int → Option R) (k0_r : Int → Int → Option R) : ∀ (n : Nat) (s9 : Int) (s10 : Int) (s11 : Int) (s12 : Int) (s13 : (List Tree)),
    f50.l0 L N self50 (fun a0 => (k0_e0 a0).bind j) (fun a0 a1 => (k0_r a0 a1).bind j) n s9 s10 s11 s12 s13 = (f50.l0 L N self50 k0_e0 k0_r n s9 s10 s11 s12 s13).bind j := by
  intro n
  induction n with
  | zero => intros; rfl
  | succ n ih =>
    intro s9 s10 s11 s12 s13
    show f50.s0 L N self50 (fun a0 => (k0_e0 a0).bind j) (fun a0 a1 => (k0_r a0 a1).bind j) (f50.l0 L N self50 (fun a0 => (k0_e0 a0).bind j) (fun a0 a1 => (k0_r a0 a1).bind j) n) s9 s10 s11 s12 s13 = _
    rw [show f50.l0 L N self50 (fun a0 => (k0_e0 a0).bind j) (fun a0 a1 => (k0_r a0 a1).bind j) n = (fun s9 s10 s11 s12 s13 => (f50.l0 L N self50 k0_e0 k0_r n s9 s10 s11 s12 s13).bind j) from funext fun s9 => funext fun s10 => funext fun s11 => funext fun s12 => funext fun s13 => ih s9 s10 s11 s12 s13]
    exact f50.s0_nat ..
theorem f50.p0_e0'_nat {R R' : Type} (j : R → Option R') (L N : Nat) (self50 : Tree → Option (Int)) (k : Int → Option R) (z14 : Int) :
    f50.p0_e0' L N self50 (fun a0 => (k a0).bind j) z14 = (f50.p0_e0' L N self50 k z14).bind j := by
  unfold f50.p0_e0'
  repeat' (first | (with_reducible refine cond_nat ?_ ?_) | (with_reducible refine bind_nat fun _ => ?_) | rfl)
theorem f50.p0_e0_nat {R R' : Type} (j : R → Option R') (L N : Nat) (self50 : Tree → Option (Int)) (k : Int → Option R) (z14 : Int) :
    f50.p0_e0 L N self50 (fun a0 => (k a0).bind j) z14 = (f50.p0_e0 L N self50 k z14).bind j := by
  unfold f50.p0_e0
  exact f50.p0_e0'_nat ..
theorem f50.p0_r'_nat {R R' : Type} (j : R → Option R') (L N : Nat) (self50 : Tree → Option (Int)) (k : Int → Option R) (z16 : Int) (z17 : Int) :
    f50.p0_r' L N self50 (fun a0 => (k a0).bind j) z16 z17 = (f50.p0_r' L N self50 k z16 z17).bind j := by
  unfold f50.p0_r'
  repeat' (first | (with_reducible refine cond_nat ?_ ?_) | (with_reducible refine bind_nat fun _ => ?_) | rfl)
theorem f50.p0_r_nat {R R' : Type} (j : R → Option R') (L N : Nat) (self50 : Tree → Option (Int)) (k : Int → Option R) (z16 : Int) (z17 : Int) :
    f50.p0_r L N self50 (fun a0 => (k a0).bind j) z16 z17 = (f50.p0_r L N self50 k z16 z17).bind j := by
  unfold f50.p0_r
  exact f50.p0_r'_nat ..
theorem f50.j0'_nat {R R' : Type} (j : R → Option R') (L N : Nat) (self50 : Tree → Option (Int)) (k : Int → Option R) (w0 : Int → Int → Int → Int → (List Tree) → Option R) (v6 : Int) (v7 : Int) (v8 : (List Tree)) :
    f50.j0' L N self50 (fun a0 => (k a0).bind j) (fun a0 a1 a2 a3 a4 => (w0 a0 a1 a2 a3 a4).bind j) v6 v7 v8 = (f50.j0' L N self50 k w0 v6 v7 v8).bind j := by
  unfold f50.j0'
  repeat' (first | (with_reducible refine cond_nat ?_ ?_) | (with_reducible refine bind_nat fun _ => ?_) | rfl)
theorem f50.b'_nat {R R' : Type} (j : R → Option R') (L N : Nat) (self50 : Tree → Option (Int)) (k : Int → Option R) (w0 : Int → Int → Int → Int → (List Tree) → Option R) (x0 : Tree) :
    f50.b' L N self50 (fun a0 => (k a0).bind j) (fun a0 a1 a2 a3 a4 => (w0 a0 a1 a2 a3 a4).bind j) x0 = (f50.b' L N self50 k w0 x0).bind j := by
  unfold f50.b'
  repeat' (first | (with_reducible refine cond_nat ?_ ?_) | (with_reducible refine bind_nat fun _ => ?_) | exact f50.j0'_nat .. | rfl)
theorem f50.b_nat {R R' : Type} (j : R → Option R') (L N : Nat) (self50 : Tree → Option (Int)) (k : Int → Option R) (x0 : Tree) :
    f50.b L N self50 (fun a0 => (k a0).bind j) x0 = (f50.b L N self50 k x0).bind j := by
  unfold f50.b
  simp only [f50.l0_nat, f50.p0_e0_nat, f50.p0_r_nat]
  exact f50.b'_nat ..
theorem f50.ok (L N m : Nat) (hΦ : TellsOk Try.prog (Φ50s L N m)) : EntOk Try.prog 50 (f50.ent L N (m + 1)) := by
  intro args vw site h
  unfold f50.ent
  split
  · rename_i d ha
    intro y hy hs
    refine call_ro (dep := 1000) (E := (E50 L N m)) (rs := (.one i64)) (v := (.tv i64 y)) (sound_of hΦ) okP (callI_sound (sound_of hΦ) okP 0 1000) (f := Try.f50) rfl hs ha ?_ rfl site
    refine (f50.b_eq L N m some d.1).trans ?_
    refine ((f50.b_nat (fun y => (some (.tv i64 y) : Option AV)) L N (f50 L N m) some d.1)).trans ?_
    rw [show f50.b L N (f50 L N m) some d.1 = some y from hy]
    rfl
  · intro y hy
    cases hy
theorem Φ50s_ok (L N : Nat) : ∀ m, TellsOk Try.prog (Φ50s L N m) := by
  intro m
  induction m with
  | zero => exact (addT_ok (Φ46_ok L N) (fun args vw site h => by unfold f50.ent; split <;> (intro y hy; cases hy)))
  | succ m ih => exact (addT_ok (Φ46_ok L N) (f50.ok L N m ih))
def Φ50 (L N : Nat) : Tells := (addT (Φ46 L N) 50 (f50.ent L N N))
theorem Φ50_ok (L N : Nat) : TellsOk Try.prog (Φ50 L N) := Φ50s_ok L N N
def f25.b' {R : Type} (L N : Nat) (k : Bool → Option R) (x0 : Tree) : Option R :=
  (f50 L N N (Tree.mk x0.op x0.n x0.parts)).bind fun y0 =>
  (f49 L N y0 (1 : Int) (60 : Int)).bind fun y1 =>
  k y1
def f25.b {R : Type} (L N : Nat) (k : Bool → Option R) (x0 : Tree) : Option R :=
  f25.b' L N k x0
def f25 (L N : Nat) (x0 : Tree) : Option (Bool) := f25.b L N some x0
def f25.ent (L N : Nat) (args : List AV) (vw : View) (site : Nat) : Ans := match roD [(.st 1)] vw args with
  | some d => ⟨Bool, f25 L N d.1, fun y => ((.tv .bool y), [], [])⟩
  | none => Ans.no
noncomputable def E25 (L N : Nat) : Env := { P := Try.prog, ty := tyOf, Φ := (Φ50 L N), inl := fun _ => false, live := lives, liveX := livesX, L := L }
theorem f25.b_pre {R : Type} (L N : Nat) (κ : AV → Option R) (x0 : Tree) :
    evBody (E25 L N) (evCallI (E25 L N) 0 1000) 1000 25 Try.f25 [(.tv (.st 1) x0)] [] [] (finC (.one .bool) κ)
    = f25.b' L N (fun a0 => κ (.tv .bool a0)) x0 := by kernel_rfl
theorem f25.b_eq {R : Type} (L N : Nat) (κ : AV → Option R) (x0 : Tree) :
    evBody (E25 L N) (evCallI (E25 L N) 0 1000) 1000 25 Try.f25 [(.tv (.st 1) x0)] [] [] (finC (.one .bool) κ)
    = f25.b L N (fun a0 => κ (.tv .bool a0)) x0 := by
  rw [f25.b_pre]
  unfold f25.b
  rfl
theorem f25.b'_nat {R R' : Type} (j : R → Option R') (L N : Nat) (k : Bool → Option R) (x0 : Tree) :
    f25.b' L N (fun a0 => (k a0).bind j) x0 = (f25.b' L N k x0).bind j := by
  unfold f25.b'
  repeat' (first | (with_reducible refine cond_nat ?_ ?_) | (with_reducible refine bind_nat fun _ => ?_) | rfl)
theorem f25.b_nat {R R' : Type} (j : R → Option R') (L N : Nat) (k : Bool → Option R) (x0 : Tree) :
    f25.b L N (fun a0 => (k a0).bind j) x0 = (f25.b L N k x0).bind j := by
  unfold f25.b
  exact f25.b'_nat ..
theorem f25.ok (L N : Nat) (hΦ : TellsOk Try.prog ((Φ50 L N))) : EntOk Try.prog 25 (f25.ent L N) := by
  intro args vw site h
  unfold f25.ent
  split
  · rename_i d ha
    intro y hy hs
    refine call_ro (dep := 1000) (E := (E25 L N)) (rs := (.one .bool)) (v := (.tv .bool y)) (sound_of hΦ) okP (callI_sound (sound_of hΦ) okP 0 1000) (f := Try.f25) rfl hs ha ?_ rfl site
    refine (f25.b_eq L N some d.1).trans ?_
    refine ((f25.b_nat (fun y => (some (.tv .bool y) : Option AV)) L N some d.1)).trans ?_
    rw [show f25.b L N some d.1 = some y from hy]
    rfl
  · intro y hy
    cases hy
def Φ25 (L N : Nat) : Tells := (addT (Φ50 L N) 25 (f25.ent L N))
theorem Φ25_ok (L N : Nat) : TellsOk Try.prog (Φ25 L N) := addT_ok (Φ50_ok L N) (f25.ok L N (Φ50_ok L N))
def f26.b' {R : Type} (L N : Nat) (self26 : Tree → Option (Tree)) (self51 : (List Tree) → Option ((List Tree))) (k : Tree → Option R) (x0 : Tree) : Option R :=
  (self51 x0.parts).bind fun y0 =>
  k (Tree.mk ((Tree.mk x0.op x0.n y0).op) ((Tree.mk x0.op x0.n y0).n) ((Tree.mk x0.op x0.n y0).parts))
def f26.b {R : Type} (L N : Nat) (self26 : Tree → Option (Tree)) (self51 : (List Tree) → Option ((List Tree))) (k : Tree → Option R) (x0 : Tree) : Option R :=
  f26.b' L N self26 self51 k x0
def f51.s0' {R : Type} (L N : Nat) (self26 : Tree → Option (Tree)) (self51 : (List Tree) → Option ((List Tree))) (k0_e0 : (List Tree) → Option R) (rec0 : (List Tree) → Int → (List Tree) → Option R) (s0 : (List Tree)) (s1 : Int) (s2 : (List Tree)) : Option R :=
  bif (decide (s1 < (s0.length : Int))) then
    bif (decide (0 ≤ s1) && decide (s1 < (s0.length : Int))) then
      (self26 (listAt s0 (Ty.dflt (.st 1)) s1.toNat)).bind fun y4 =>
      bif (decide (0 ≤ s1) && decide (s1 < (s2.length : Int))) then
        rec0 s0 (wi (s1 + (1 : Int))) (s2.set s1.toNat y4)
      else none
    else none
  else k0_e0 s2
def f51.s0 {R : Type} (L N : Nat) (self26 : Tree → Option (Tree)) (self51 : (List Tree) → Option ((List Tree))) (k0_e0 : (List Tree) → Option R) (rec0 : (List Tree) → Int → (List Tree) → Option R) (s0 : (List Tree)) (s1 : Int) (s2 : (List Tree)) : Option R :=
  f51.s0' L N self26 self51 k0_e0 rec0 s0 s1 s2
def f51.l0 {R : Type} (L N : Nat) (self26 : Tree → Option (Tree)) (self51 : (List Tree) → Option ((List Tree))) (k0_e0 : (List Tree) → Option R) : Nat → (List Tree) → Int → (List Tree) → Option R
  | 0, _, _, _ => none
  | n + 1, s0, s1, s2 => f51.s0 L N self26 self51 k0_e0 (f51.l0 L N self26 self51 k0_e0 n) s0 s1 s2
def f51.T0 (s0 : (List Tree)) (s1 : Int) (s2 : (List Tree)) : T := mkT 23 [(0, (.tv (.sl (.st 1)) s0)), (3, (.row 1007)), (4, (.tv i64 s1))]
def f51.H0 (s0 : (List Tree)) (s1 : Int) (s2 : (List Tree)) : H := [(1007, (.row 40 (.st 1) s2))]
def f51.T0_e0 (z3 : (List Tree)) : T := mkT 23 [(3, (.row 1007))]
def f51.H0_e0 (z3 : (List Tree)) : H := [(1007, (.row 40 (.st 1) z3))]
def f51.p0_e0' {R : Type} (L N : Nat) (self26 : Tree → Option (Tree)) (self51 : (List Tree) → Option ((List Tree))) (k : (List Tree) → Option R) (z3 : (List Tree)) : Option R :=
  k z3
def f51.p0_e0 {R : Type} (L N : Nat) (self26 : Tree → Option (Tree)) (self51 : (List Tree) → Option ((List Tree))) (k : (List Tree) → Option R) (z3 : (List Tree)) : Option R :=
  f51.p0_e0' L N self26 self51 k z3
def f51.b' {R : Type} (L N : Nat) (self26 : Tree → Option (Tree)) (self51 : (List Tree) → Option ((List Tree))) (k : (List Tree) → Option R) (w0 : (List Tree) → Int → (List Tree) → Option R) (x0 : (List Tree)) : Option R :=
  bif (decide (0 ≤ (x0.length : Int)) && decide ((x0.length : Int) ≤ (lim : Int))) then
    w0 x0 (0 : Int) (List.replicate (x0.length : Int).toNat (Ty.dflt (.st 1)))
  else none
def f51.b {R : Type} (L N : Nat) (self26 : Tree → Option (Tree)) (self51 : (List Tree) → Option ((List Tree))) (k : (List Tree) → Option R) (x0 : (List Tree)) : Option R :=
  f51.b' L N self26 self51 k (fun s0 s1 s2 => f51.l0 L N self26 self51 (fun z3 => f51.p0_e0 L N self26 self51 k z3) L s0 s1 s2) x0
mutual
def f26 (L N : Nat) : Nat → Tree → Option (Tree)
  | 0, _ => none
  | n + 1, x0 => f26.b L N (f26 L N n) (f51 L N n) some x0
def f51 (L N : Nat) : Nat → (List Tree) → Option ((List Tree))
  | 0, _ => none
  | n + 1, x0 => f51.b L N (f26 L N n) (f51 L N n) some x0
end
def f26.ent (L N m : Nat) (args : List AV) (vw : View) (site : Nat) : Ans := match coeD [(.st 1)] vw args with
  | some (d, u) => ⟨Tree, f26 L N m d.1, fun y => ((.tv (.st 1) y), u, [])⟩
  | none => Ans.no
def f51.ent (L N m : Nat) (args : List AV) (vw : View) (site : Nat) : Ans := match coeD [(.sl (.st 1))] vw args with
  | some (d, u) => ⟨(List Tree), f51 L N m d.1, fun y => ((.tv (.sl (.st 1)) y), u, [])⟩
  | none => Ans.no
def Φ26s (L N m : Nat) : Tells := (addT (addT (Φ25 L N) 26 (f26.ent L N m)) 51 (f51.ent L N m))
noncomputable def E26 (L N m : Nat) : Env := { P := Try.prog, ty := tyOf, Φ := Φ26s L N m, inl := fun _ => false, live := lives, liveX := livesX, L := L }
theorem f26.b_pre {R : Type} (L N m : Nat) (κ : AV → Option R) (x0 : Tree) :
    evBody (E26 L N m) (evCallI (E26 L N m) 0 1000) 1000 26 Try.f26 [(.tv (.st 1) x0)] [] [] (finC (.one (.st 1)) κ)
    = f26.b' L N (f26 L N m) (f51 L N m) (fun a0 => κ (.tv (.st 1) a0)) x0 := by kernel_rfl
theorem f26.b_eq {R : Type} (L N m : Nat) (κ : AV → Option R) (x0 : Tree) :
    evBody (E26 L N m) (evCallI (E26 L N m) 0 1000) 1000 26 Try.f26 [(.tv (.st 1) x0)] [] [] (finC (.one (.st 1)) κ)
    = f26.b L N (f26 L N m) (f51 L N m) (fun a0 => κ (.tv (.st 1) a0)) x0 := by
  rw [f26.b_pre]
  unfold f26.b
  rfl
noncomputable def f51.c0 : Code := loopAt 0 (codeOf Try.f51)
theorem f51.s0_pre {R : Type} (L N m : Nat) (κ : Ex → T → H → Option R) (rec : T → H → Option R) (s0 : (List Tree)) (s1 : Int) (s2 : (List Tree)) :
    evRd (E26 L N m) (evCallI (E26 L N m) 0 1000) 1000 51 23 0 f51.c0 κ rec (f51.T0 s0 s1 s2) (f51.H0 s0 s1 s2)
    = f51.s0' L N (f26 L N m) (f51 L N m) (fun z3 => κ (.exit 0) (f51.T0_e0 z3) (f51.H0_e0 z3)) (fun s0 s1 s2 => rec (f51.T0 s0 s1 s2) (f51.H0 s0 s1 s2)) s0 s1 s2 := by kernel_rfl
theorem f51.s0_eq {R : Type} (L N m : Nat) (κ : Ex → T → H → Option R) (rec : T → H → Option R) (s0 : (List Tree)) (s1 : Int) (s2 : (List Tree)) :
    evRd (E26 L N m) (evCallI (E26 L N m) 0 1000) 1000 51 23 0 f51.c0 κ rec (f51.T0 s0 s1 s2) (f51.H0 s0 s1 s2)
    = f51.s0 L N (f26 L N m) (f51 L N m) (fun z3 => κ (.exit 0) (f51.T0_e0 z3) (f51.H0_e0 z3)) (fun s0 s1 s2 => rec (f51.T0 s0 s1 s2) (f51.H0 s0 s1 s2)) s0 s1 s2 := by
  rw [f51.s0_pre]
  unfold f51.s0
  rfl
theorem f51.l0_eq {R : Type} (L N m : Nat) (κ : Ex → T → H → Option R) : ∀ (n : Nat) (s0 : (List Tree)) (s1 : Int) (s2 : (List Tree)),
    evLp (E26 L N m) (evCallI (E26 L N m) 0 1000) 1000 51 23 0 f51.c0 κ n (f51.T0 s0 s1 s2) (f51.H0 s0 s1 s2)
    = f51.l0 L N (f26 L N m) (f51 L N m) (fun z3 => κ (.exit 0) (f51.T0_e0 z3) (f51.H0_e0 z3)) n s0 s1 s2 := by
  intro n
  induction n with
  | zero => intros; rfl
  | succ n ih =>
    intro s0 s1 s2
    rw [evLp_succ, f51.s0_eq]
    simp only [ih]
    rfl
theorem f51.p0_e0_pre {R : Type} (L N m : Nat) (κ : AV → Option R) (z3 : (List Tree)) :
    (contAt (E26 L N m) (evCallI (E26 L N m) 0 1000) 1000 51 23 0 (codeOf Try.f51) (finK (E26 L N m) 1000 Try.f51 (finC (.one (.sl (.st 1))) κ))) (.exit 0) (f51.T0_e0 z3) (f51.H0_e0 z3)
    = f51.p0_e0' L N (f26 L N m) (f51 L N m) (fun a0 => κ (.tv (.sl (.st 1)) a0)) z3 := by kernel_rfl
theorem f51.p0_e0_eq {R : Type} (L N m : Nat) (κ : AV → Option R) (z3 : (List Tree)) :
    (contAt (E26 L N m) (evCallI (E26 L N m) 0 1000) 1000 51 23 0 (codeOf Try.f51) (finK (E26 L N m) 1000 Try.f51 (finC (.one (.sl (.st 1))) κ))) (.exit 0) (f51.T0_e0 z3) (f51.H0_e0 z3)
    = f51.p0_e0 L N (f26 L N m) (f51 L N m) (fun a0 => κ (.tv (.sl (.st 1)) a0)) z3 := by
  rw [f51.p0_e0_pre]
  unfold f51.p0_e0
  rfl
theorem f51.b_pre {R : Type} (L N m : Nat) (κ : AV → Option R) (x0 : (List Tree)) :
    evBody (E26 L N m) (evCallI (E26 L N m) 0 1000) 1000 51 Try.f51 [(.tv (.sl (.st 1)) x0)] [] [] (finC (.one (.sl (.st 1))) κ)
    = f51.b' L N (f26 L N m) (f51 L N m) (fun a0 => κ (.tv (.sl (.st 1)) a0)) (fun s0 s1 s2 => evLp (E26 L N m) (evCallI (E26 L N m) 0 1000) 1000 51 23 0 f51.c0 (contAt (E26 L N m) (evCallI (E26 L N m) 0 1000) 1000 51 23 0 (codeOf Try.f51) (finK (E26 L N m) 1000 Try.f51 (finC (.one (.sl (.st 1))) κ))) L (f51.T0 s0 s1 s2) (f51.H0 s0 s1 s2)) x0 := by kernel_rfl
theorem f51.b_eq {R : Type} (L N m : Nat) (κ : AV → Option R) (x0 : (List Tree)) :
    evBody (E26 L N m) (evCallI (E26 L N m) 0 1000) 1000 51 Try.f51 [(.tv (.sl (.st 1)) x0)] [] [] (finC (.one (.sl (.st 1))) κ)
    = f51.b L N (f26 L N m) (f51 L N m) (fun a0 => κ (.tv (.sl (.st 1)) a0)) x0 := by
  rw [f51.b_pre]
  unfold f51.b
  simp only [f51.l0_eq, f51.p0_e0_eq]
theorem f26.b'_nat {R R' : Type} (j : R → Option R') (L N : Nat) (self26 : Tree → Option (Tree)) (self51 : (List Tree) → Option ((List Tree))) (k : Tree → Option R) (x0 : Tree) :
    f26.b' L N self26 self51 (fun a0 => (k a0).bind j) x0 = (f26.b' L N self26 self51 k x0).bind j := by
  unfold f26.b'
  repeat' (first | (with_reducible refine cond_nat ?_ ?_) | (with_reducible refine bind_nat fun _ => ?_) | rfl)
theorem f26.b_nat {R R' : Type} (j : R → Option R') (L N : Nat) (self26 : Tree → Option (Tree)) (self51 : (List Tree) → Option ((List Tree))) (k : Tree → Option R) (x0 : Tree) :
    f26.b L N self26 self51 (fun a0 => (k a0).bind j) x0 = (f26.b L N self26 self51 k x0).bind j := by
  unfold f26.b
  exact f26.b'_nat ..
theorem f51.s0'_nat {R R' : Type} (j : R → Option R') (L N : Nat) (self26 : Tree → Option (Tree)) (self51 : (List Tree) → Option ((List Tree))) (k0_e0 : (List Tree) → Option R) (rec0 : (List Tree) → Int → (List Tree) → Option R) (s0 : (List Tree)) (s1 : Int) (s2 : (List Tree)) :
    f51.s0' L N self26 self51 (fun a0 => (k0_e0 a0).bind j) (fun a0 a1 a2 => (rec0 a0 a1 a2).bind j) s0 s1 s2 = (f51.s0' L N self26 self51 k0_e0 rec0 s0 s1 s2).bind j := by
  unfold f51.s0'
  repeat' (first | (with_reducible refine cond_nat ?_ ?_) | (with_reducible refine bind_nat fun _ => ?_) | rfl)
theorem f51.s0_nat {R R' : Type} (j : R → Option R') (L N : Nat) (self26 : Tree → Option (Tree)) (self51 : (List Tree) → Option ((List Tree))) (k0_e0 : (List Tree) → Option R) (rec0 : (List Tree) → Int → (List Tree) → Option R) (s0 : (List Tree)) (s1 : Int) (s2 : (List Tree)) :
    f51.s0 L N self26 self51 (fun a0 => (k0_e0 a0).bind j) (fun a0 a1 a2 => (rec0 a0 a1 a2).bind j) s0 s1 s2 = (f51.s0 L N self26 self51 k0_e0 rec0 s0 s1 s2).bind j := by
  unfold f51.s0
  exact f51.s0'_nat ..
theorem f51.l0_nat {R R' : Type} (j : R → Option R') (L N : Nat) (self26 : Tree → Option (Tree)) (self51 : (List Tree) → Option ((List Tree))) (k0_e0 : (List Tree) → Option R) : ∀ (n : Nat) (s0 : (List Tree)) (s1 : Int) (s2 : (List Tree)),
    f51.l0 L N self26 self51 (fun a0 => (k0_e0 a0).bind j) n s0 s1 s2 = (f51.l0 L N self26 self51 k0_e0 n s0 s1 s2).bind j := by
  intro n
  induction n with
  | zero => intros; rfl
  | succ n ih =>
    intro s0 s1 s2
    show f51.s0 L N self26 self51 (fun a0 => (k0_e0 a0).bind j) (f51.l0 L N self26 self51 (fun a0 => (k0_e0 a0).bind j) n) s0 s1 s2 = _
    rw [show f51.l0 L N self26 self51 (fun a0 => (k0_e0 a0).bind j) n = (fun s0 s1 s2 => (f51.l0 L N self26 self51 k0_e0 n s0 s1 s2).bind j) from funext fun s0 => funext fun s1 => funext fun s2 => ih s0 s1 s2]
    exact f51.s0_nat ..
theorem f51.p0_e0'_nat {R R' : Type} (j : R → Option R') (L N : Nat) (self26 : Tree → Option (Tree)) (self51 : (List Tree) → Option ((List Tree))) (k : (List Tree) → Option R) (z3 : (List Tree)) :
    f51.p0_e0' L N self26 self51 (fun a0 => (k a0).bind j) z3 = (f51.p0_e0' L N self26 self51 k z3).bind j := by
  unfold f51.p0_e0'
  repeat' (first | (with_reducible refine cond_nat ?_ ?_) | (with_reducible refine bind_nat fun _ => ?_) | rfl)
theorem f51.p0_e0_nat {R R' : Type} (j : R → Option R') (L N : Nat) (self26 : Tree → Option (Tree)) (self51 : (List Tree) → Option ((List Tree))) (k : (List Tree) → Option R) (z3 : (List Tree)) :
    f51.p0_e0 L N self26 self51 (fun a0 => (k a0).bind j) z3 = (f51.p0_e0 L N self26 self51 k z3).bind j := by
  unfold f51.p0_e0
  exact f51.p0_e0'_nat ..
theorem f51.b'_nat {R R' : Type} (j : R → Option R') (L N : Nat) (self26 : Tree → Option (Tree)) (self51 : (List Tree) → Option ((List Tree))) (k : (List Tree) → Option R) (w0 : (List Tree) → Int → (List Tree) → Option R) (x0 : (List Tree)) :
    f51.b' L N self26 self51 (fun a0 => (k a0).bind j) (fun a0 a1 a2 => (w0 a0 a1 a2).bind j) x0 = (f51.b' L N self26 self51 k w0 x0).bind j := by
  unfold f51.b'
  repeat' (first | (with_reducible refine cond_nat ?_ ?_) | (with_reducible refine bind_nat fun _ => ?_) | rfl)
theorem f51.b_nat {R R' : Type} (j : R → Option R') (L N : Nat) (self26 : Tree → Option (Tree)) (self51 : (List Tree) → Option ((List Tree))) (k : (List Tree) → Option R) (x0 : (List Tree)) :
    f51.b L N self26 self51 (fun a0 => (k a0).bind j) x0 = (f51.b L N self26 self51 k x0).bind j := by
  unfold f51.b
  simp only [f51.l0_nat, f51.p0_e0_nat]
  exact f51.b'_nat ..
theorem f26.ok (L N m : Nat) (hΦ : TellsOk Try.prog (Φ26s L N m)) : EntOk Try.prog 26 (f26.ent L N (m + 1)) := by
  intro args vw site h
  unfold f26.ent
  split
  · rename_i d u ha
    intro y hy hs
    refine call_data (dep := 1000) (E := (E26 L N m)) (rs := (.one (.st 1))) (v' := (.tv (.st 1) y)) (sound_of hΦ) okP (callI_sound (sound_of hΦ) okP 0 1000) (f := Try.f26) rfl hs ha ?_ site
    refine (f26.b_eq L N m some d.1).trans ?_
    refine ((f26.b_nat (fun y => (some (.tv (.st 1) y) : Option AV)) L N (f26 L N m) (f51 L N m) some d.1)).trans ?_
    rw [show f26.b L N (f26 L N m) (f51 L N m) some d.1 = some y from hy]
    rfl
  · intro y hy
    cases hy
theorem f51.ok (L N m : Nat) (hΦ : TellsOk Try.prog (Φ26s L N m)) : EntOk Try.prog 51 (f51.ent L N (m + 1)) := by
  intro args vw site h
  unfold f51.ent
  split
  · rename_i d u ha
    intro y hy hs
    refine call_data (dep := 1000) (E := (E26 L N m)) (rs := (.one (.sl (.st 1)))) (v' := (.tv (.sl (.st 1)) y)) (sound_of hΦ) okP (callI_sound (sound_of hΦ) okP 0 1000) (f := Try.f51) rfl hs ha ?_ site
    refine (f51.b_eq L N m some d.1).trans ?_
    refine ((f51.b_nat (fun y => (some (.tv (.sl (.st 1)) y) : Option AV)) L N (f26 L N m) (f51 L N m) some d.1)).trans ?_
    rw [show f51.b L N (f26 L N m) (f51 L N m) some d.1 = some y from hy]
    rfl
  · intro y hy
    cases hy
theorem Φ26s_ok (L N : Nat) : ∀ m, TellsOk Try.prog (Φ26s L N m) := by
  intro m
  induction m with
  | zero => exact (addT_ok (addT_ok (Φ25_ok L N) (fun args vw site h => by unfold f26.ent; split <;> (intro y hy; cases hy))) (fun args vw site h => by unfold f51.ent; split <;> (intro y hy; cases hy)))
  | succ m ih => exact (addT_ok (addT_ok (Φ25_ok L N) (f26.ok L N m ih)) (f51.ok L N m ih))
def Φ26 (L N : Nat) : Tells := (addT (addT (Φ25 L N) 26 (f26.ent L N N)) 51 (f51.ent L N N))
theorem Φ26_ok (L N : Nat) : TellsOk Try.prog (Φ26 L N) := Φ26s_ok L N N
def f52.s0' {R : Type} (L N : Nat) (self52 : Tree → Int → Option (Int)) (k0_e0 : Int → Option R) (k0_r : Int → Int → Option R) (rec0 : Int → Int → (List Tree) → Int → Int → Option R) (s0 : Int) (s1 : Int) (s2 : (List Tree)) (s3 : Int) (s4 : Int) : Option R :=
  bif (decide (s4 < s3)) then
    bif (decide (0 ≤ s4) && decide (s4 < (s2.length : Int))) then
      bif (decide (s1 > s0)) then
        k0_r s1 s1
      else (self52 (Tree.mk ((listAt s2 (Ty.dflt (.st 1)) s4.toNat).op) ((listAt s2 (Ty.dflt (.st 1)) s4.toNat).n) ((listAt s2 (Ty.dflt (.st 1)) s4.toNat).parts)) (wi (s0 - s1))).bind fun y8 =>
      rec0 s0 (wi (s1 + y8)) s2 s3 (wi (s4 + (1 : Int)))
    else none
  else k0_e0 s1
def f52.s0 {R : Type} (L N : Nat) (self52 : Tree → Int → Option (Int)) (k0_e0 : Int → Option R) (k0_r : Int → Int → Option R) (rec0 : Int → Int → (List Tree) → Int → Int → Option R) (s0 : Int) (s1 : Int) (s2 : (List Tree)) (s3 : Int) (s4 : Int) : Option R :=
  f52.s0' L N self52 k0_e0 k0_r rec0 s0 s1 s2 s3 s4
def f52.l0 {R : Type} (L N : Nat) (self52 : Tree → Int → Option (Int)) (k0_e0 : Int → Option R) (k0_r : Int → Int → Option R) : Nat → Int → Int → (List Tree) → Int → Int → Option R
  | 0, _, _, _, _, _ => none
  | n + 1, s0, s1, s2, s3, s4 => f52.s0 L N self52 k0_e0 k0_r (f52.l0 L N self52 k0_e0 k0_r n) s0 s1 s2 s3 s4
def f52.T0 (s0 : Int) (s1 : Int) (s2 : (List Tree)) (s3 : Int) (s4 : Int) : T := mkT 28 [(1, (.tv i64 s0)), (5, (.tv i64 s1)), (9, (.tv (.sl (.st 1)) s2)), (10, (.tv i64 s3)), (11, (.tv i64 s4))]
def f52.H0 (s0 : Int) (s1 : Int) (s2 : (List Tree)) (s3 : Int) (s4 : Int) : H := []
def f52.T0_e0 (z5 : Int) : T := mkT 28 [(5, (.tv i64 z5))]
def f52.H0_e0 (z5 : Int) : H := []
def f52.T0_r (z6 : Int) (z7 : Int) : T := mkT 28 [(4, (.tv i64 z6)), (5, (.tv i64 z7))]
def f52.H0_r (z6 : Int) (z7 : Int) : H := []
def f52.p0_e0' {R : Type} (L N : Nat) (self52 : Tree → Int → Option (Int)) (k : Int → Option R) (z5 : Int) : Option R :=
  k z5
def f52.p0_e0 {R : Type} (L N : Nat) (self52 : Tree → Int → Option (Int)) (k : Int → Option R) (z5 : Int) : Option R :=
  f52.p0_e0' L N self52 k z5
def f52.p0_r' {R : Type} (L N : Nat) (self52 : Tree → Int → Option (Int)) (k : Int → Option R) (z6 : Int) (z7 : Int) : Option R :=
  k z6
def f52.p0_r {R : Type} (L N : Nat) (self52 : Tree → Int → Option (Int)) (k : Int → Option R) (z6 : Int) (z7 : Int) : Option R :=
  f52.p0_r' L N self52 k z6 z7
def f52.b' {R : Type} (L N : Nat) (self52 : Tree → Int → Option (Int)) (k : Int → Option R) (w0 : Int → Int → (List Tree) → Int → Int → Option R) (x0 : Tree) (x1 : Int) : Option R :=
  w0 x1 (1 : Int) x0.parts (x0.parts.length : Int) (0 : Int)
def f52.b {R : Type} (L N : Nat) (self52 : Tree → Int → Option (Int)) (k : Int → Option R) (x0 : Tree) (x1 : Int) : Option R :=
  f52.b' L N self52 k (fun s0 s1 s2 s3 s4 => f52.l0 L N self52 (fun z5 => f52.p0_e0 L N self52 k z5) (fun z6 z7 => f52.p0_r L N self52 k z6 z7) L s0 s1 s2 s3 s4) x0 x1
def f52 (L N : Nat) : Nat → Tree → Int → Option (Int)
  | 0, _, _ => none
  | n + 1, x0, x1 => f52.b L N (f52 L N n) some x0 x1
def f52.ent (L N m : Nat) (args : List AV) (vw : View) (site : Nat) : Ans := match roD [(.st 1), i64] vw args with
  | some d => ⟨Int, f52 L N m d.1 d.2.1, fun y => ((.tv i64 y), [], [])⟩
  | none => Ans.no
def Φ52s (L N m : Nat) : Tells := (addT (Φ26 L N) 52 (f52.ent L N m))
noncomputable def E52 (L N m : Nat) : Env := { P := Try.prog, ty := tyOf, Φ := Φ52s L N m, inl := fun _ => false, live := lives, liveX := livesX, L := L }
noncomputable def f52.c0 : Code := loopAt 0 (codeOf Try.f52)
theorem f52.s0_pre {R : Type} (L N m : Nat) (κ : Ex → T → H → Option R) (rec : T → H → Option R) (s0 : Int) (s1 : Int) (s2 : (List Tree)) (s3 : Int) (s4 : Int) :
    evRd (E52 L N m) (evCallI (E52 L N m) 0 1000) 1000 52 28 0 f52.c0 κ rec (f52.T0 s0 s1 s2 s3 s4) (f52.H0 s0 s1 s2 s3 s4)
    = f52.s0' L N (f52 L N m) (fun z5 => κ (.exit 0) (f52.T0_e0 z5) (f52.H0_e0 z5)) (fun z6 z7 => κ .ret (f52.T0_r z6 z7) (f52.H0_r z6 z7)) (fun s0 s1 s2 s3 s4 => rec (f52.T0 s0 s1 s2 s3 s4) (f52.H0 s0 s1 s2 s3 s4)) s0 s1 s2 s3 s4 := by kernel_rfl
theorem f52.s0_eq {R : Type} (L N m : Nat) (κ : Ex → T → H → Option R) (rec : T → H → Option R) (s0 : Int) (s1 : Int) (s2 : (List Tree)) (s3 : Int) (s4 : Int) :
    evRd (E52 L N m) (evCallI (E52 L N m) 0 1000) 1000 52 28 0 f52.c0 κ rec (f52.T0 s0 s1 s2 s3 s4) (f52.H0 s0 s1 s2 s3 s4)
    = f52.s0 L N (f52 L N m) (fun z5 => κ (.exit 0) (f52.T0_e0 z5) (f52.H0_e0 z5)) (fun z6 z7 => κ .ret (f52.T0_r z6 z7) (f52.H0_r z6 z7)) (fun s0 s1 s2 s3 s4 => rec (f52.T0 s0 s1 s2 s3 s4) (f52.H0 s0 s1 s2 s3 s4)) s0 s1 s2 s3 s4 := by
  rw [f52.s0_pre]
  unfold f52.s0
  rfl
theorem f52.l0_eq {R : Type} (L N m : Nat) (κ : Ex → T → H → Option R) : ∀ (n : Nat) (s0 : Int) (s1 : Int) (s2 : (List Tree)) (s3 : Int) (s4 : Int),
    evLp (E52 L N m) (evCallI (E52 L N m) 0 1000) 1000 52 28 0 f52.c0 κ n (f52.T0 s0 s1 s2 s3 s4) (f52.H0 s0 s1 s2 s3 s4)
    = f52.l0 L N (f52 L N m) (fun z5 => κ (.exit 0) (f52.T0_e0 z5) (f52.H0_e0 z5)) (fun z6 z7 => κ .ret (f52.T0_r z6 z7) (f52.H0_r z6 z7)) n s0 s1 s2 s3 s4 := by
  intro n
  induction n with
  | zero => intros; rfl
  | succ n ih =>
    intro s0 s1 s2 s3 s4
    rw [evLp_succ, f52.s0_eq]
    simp only [ih]
    rfl
theorem f52.p0_e0_pre {R : Type} (L N m : Nat) (κ : AV → Option R) (z5 : Int) :
    (contAt (E52 L N m) (evCallI (E52 L N m) 0 1000) 1000 52 28 0 (codeOf Try.f52) (finK (E52 L N m) 1000 Try.f52 (finC (.one i64) κ))) (.exit 0) (f52.T0_e0 z5) (f52.H0_e0 z5)
    = f52.p0_e0' L N (f52 L N m) (fun a0 => κ (.tv i64 a0)) z5 := by kernel_rfl
theorem f52.p0_e0_eq {R : Type} (L N m : Nat) (κ : AV → Option R) (z5 : Int) :
    (contAt (E52 L N m) (evCallI (E52 L N m) 0 1000) 1000 52 28 0 (codeOf Try.f52) (finK (E52 L N m) 1000 Try.f52 (finC (.one i64) κ))) (.exit 0) (f52.T0_e0 z5) (f52.H0_e0 z5)
    = f52.p0_e0 L N (f52 L N m) (fun a0 => κ (.tv i64 a0)) z5 := by
  rw [f52.p0_e0_pre]
  unfold f52.p0_e0
  rfl
theorem f52.p0_r_pre {R : Type} (L N m : Nat) (κ : AV → Option R) (z6 : Int) (z7 : Int) :
    (contAt (E52 L N m) (evCallI (E52 L N m) 0 1000) 1000 52 28 0 (codeOf Try.f52) (finK (E52 L N m) 1000 Try.f52 (finC (.one i64) κ))) .ret (f52.T0_r z6 z7) (f52.H0_r z6 z7)
    = f52.p0_r' L N (f52 L N m) (fun a0 => κ (.tv i64 a0)) z6 z7 := by kernel_rfl
theorem f52.p0_r_eq {R : Type} (L N m : Nat) (κ : AV → Option R) (z6 : Int) (z7 : Int) :
    (contAt (E52 L N m) (evCallI (E52 L N m) 0 1000) 1000 52 28 0 (codeOf Try.f52) (finK (E52 L N m) 1000 Try.f52 (finC (.one i64) κ))) .ret (f52.T0_r z6 z7) (f52.H0_r z6 z7)
    = f52.p0_r L N (f52 L N m) (fun a0 => κ (.tv i64 a0)) z6 z7 := by
  rw [f52.p0_r_pre]
  unfold f52.p0_r
  rfl
theorem f52.b_pre {R : Type} (L N m : Nat) (κ : AV → Option R) (x0 : Tree) (x1 : Int) :
    evBody (E52 L N m) (evCallI (E52 L N m) 0 1000) 1000 52 Try.f52 [(.tv (.st 1) x0), (.tv i64 x1)] [] [] (finC (.one i64) κ)
    = f52.b' L N (f52 L N m) (fun a0 => κ (.tv i64 a0)) (fun s0 s1 s2 s3 s4 => evLp (E52 L N m) (evCallI (E52 L N m) 0 1000) 1000 52 28 0 f52.c0 (contAt (E52 L N m) (evCallI (E52 L N m) 0 1000) 1000 52 28 0 (codeOf Try.f52) (finK (E52 L N m) 1000 Try.f52 (finC (.one i64) κ))) L (f52.T0 s0 s1 s2 s3 s4) (f52.H0 s0 s1 s2 s3 s4)) x0 x1 := by kernel_rfl
theorem f52.b_eq {R : Type} (L N m : Nat) (κ : AV → Option R) (x0 : Tree) (x1 : Int) :
    evBody (E52 L N m) (evCallI (E52 L N m) 0 1000) 1000 52 Try.f52 [(.tv (.st 1) x0), (.tv i64 x1)] [] [] (finC (.one i64) κ)
    = f52.b L N (f52 L N m) (fun a0 => κ (.tv i64 a0)) x0 x1 := by
  rw [f52.b_pre]
  unfold f52.b
  simp only [f52.l0_eq, f52.p0_e0_eq, f52.p0_r_eq]
theorem f52.s0'_nat {R R' : Type} (j : R → Option R') (L N : Nat) (self52 : Tree → Int → Option (Int)) (k0_e0 : Int → Option R) (k0_r : Int → Int → Option R) (rec0 : Int → Int → (List Tree) → Int → Int → Option R) (s0 : Int) (s1 : Int) (s2 : (List Tree)) (s3 : Int) (s4 : Int) :
    f52.s0' L N self52 (fun a0 => (k0_e0 a0).bind j) (fun a0 a1 => (k0_r a0 a1).bind j) (fun a0 a1 a2 a3 a4 => (rec0 a0 a1 a2 a3 a4).bind j) s0 s1 s2 s3 s4 = (f52.s0' L N self52 k0_e0 k0_r rec0 s0 s1 s2 s3 s4).bind j := by
  unfold f52.s0'
  repeat' (first | (with_reducible refine cond_nat ?_ ?_) | (with_reducible refine bind_nat fun _ => ?_) | rfl)
theorem f52.s0_nat {R R' : Type} (j : R → Option R') (L N : Nat) (self52 : Tree → Int → Option (Int)) (k0_e0 : Int → Option R) (k0_r : Int → Int → Option R) (rec0 : Int → Int → (List Tree) → Int → Int → Option R) (s0 : Int) (s1 : Int) (s2 : (List Tree)) (s3 : Int) (s4 : Int) :
    f52.s0 L N self52 (fun a0 => (k0_e0 a0).bind j) (fun a0 a1 => (k0_r a0 a1).bind j) (fun a0 a1 a2 a3 a4 => (rec0 a0 a1 a2 a3 a4).bind j) s0 s1 s2 s3 s4 = (f52.s0 L N self52 k0_e0 k0_r rec0 s0 s1 s2 s3 s4).bind j := by
  unfold f52.s0
  exact f52.s0'_nat ..
theorem f52.l0_nat {R R' : Type} (j : R → Option R') (L N : Nat) (self52 : Tree → Int → Option (Int)) (k0_e0 : Int → Option R) (k0_r : Int → Int → Option R) : ∀ (n : Nat) (s0 : Int) (s1 : Int) (s2 : (List Tree)) (s3 : Int) (s4 : Int),
    f52.l0 L N self52 (fun a0 => (k0_e0 a0).bind j) (fun a0 a1 => (k0_r a0 a1).bind j) n s0 s1 s2 s3 s4 = (f52.l0 L N self52 k0_e0 k0_r n s0 s1 s2 s3 s4).bind j := by
  intro n
  induction n with
  | zero => intros; rfl
  | succ n ih =>
    intro s0 s1 s2 s3 s4
    show f52.s0 L N self52 (fun a0 => (k0_e0 a0).bind j) (fun a0 a1 => (k0_r a0 a1).bind j) (f52.l0 L N self52 (fun a0 => (k0_e0 a0).bind j) (fun a0 a1 => (k0_r a0 a1).bind j) n) s0 s1 s2 s3 s4 = _
    rw [show f52.l0 L N self52 (fun a0 => (k0_e0 a0).bind j) (fun a0 a1 => (k0_r a0 a1).bind j) n = (fun s0 s1 s2 s3 s4 => (f52.l0 L N self52 k0_e0 k0_r n s0 s1 s2 s3 s4).bind j) from funext fun s0 => funext fun s1 => funext fun s2 => funext fun s3 => funext fun s4 => ih s0 s1 s2 s3 s4]
    exact f52.s0_nat ..
theorem f52.p0_e0'_nat {R R' : Type} (j : R → Option R') (L N : Nat) (self52 : Tree → Int → Option (Int)) (k : Int → Option R) (z5 : Int) :
    f52.p0_e0' L N self52 (fun a0 => (k a0).bind j) z5 = (f52.p0_e0' L N self52 k z5).bind j := by
  unfold f52.p0_e0'
  repeat' (first | (with_reducible refine cond_nat ?_ ?_) | (with_reducible refine bind_nat fun _ => ?_) | rfl)
theorem f52.p0_e0_nat {R R' : Type} (j : R → Option R') (L N : Nat) (self52 : Tree → Int → Option (Int)) (k : Int → Option R) (z5 : Int) :
    f52.p0_e0 L N self52 (fun a0 => (k a0).bind j) z5 = (f52.p0_e0 L N self52 k z5).bind j := by
  unfold f52.p0_e0
  exact f52.p0_e0'_nat ..
theorem f52.p0_r'_nat {R R' : Type} (j : R → Option R') (L N : Nat) (self52 : Tree → Int → Option (Int)) (k : Int → Option R) (z6 : Int) (z7 : Int) :
    f52.p0_r' L N self52 (fun a0 => (k a0).bind j) z6 z7 = (f52.p0_r' L N self52 k z6 z7).bind j := by
  unfold f52.p0_r'
  repeat' (first | (with_reducible refine cond_nat ?_ ?_) | (with_reducible refine bind_nat fun _ => ?_) | rfl)
theorem f52.p0_r_nat {R R' : Type} (j : R → Option R') (L N : Nat) (self52 : Tree → Int → Option (Int)) (k : Int → Option R) (z6 : Int) (z7 : Int) :
    f52.p0_r L N self52 (fun a0 => (k a0).bind j) z6 z7 = (f52.p0_r L N self52 k z6 z7).bind j := by
  unfold f52.p0_r
  exact f52.p0_r'_nat ..
theorem f52.b'_nat {R R' : Type} (j : R → Option R') (L N : Nat) (self52 : Tree → Int → Option (Int)) (k : Int → Option R) (w0 : Int → Int → (List Tree) → Int → Int → Option R) (x0 : Tree) (x1 : Int) :
    f52.b' L N self52 (fun a0 => (k a0).bind j) (fun a0 a1 a2 a3 a4 => (w0 a0 a1 a2 a3 a4).bind j) x0 x1 = (f52.b' L N self52 k w0 x0 x1).bind j := by
  unfold f52.b'
  repeat' (first | (with_reducible refine cond_nat ?_ ?_) | (with_reducible refine bind_nat fun _ => ?_) | rfl)
theorem f52.b_nat {R R' : Type} (j : R → Option R') (L N : Nat) (self52 : Tree → Int → Option (Int)) (k : Int → Option R) (x0 : Tree) (x1 : Int) :
    f52.b L N self52 (fun a0 => (k a0).bind j) x0 x1 = (f52.b L N self52 k x0 x1).bind j := by
  unfold f52.b
  simp only [f52.l0_nat, f52.p0_e0_nat, f52.p0_r_nat]
  exact f52.b'_nat ..
theorem f52.ok (L N m : Nat) (hΦ : TellsOk Try.prog (Φ52s L N m)) : EntOk Try.prog 52 (f52.ent L N (m + 1)) := by
  intro args vw site h
  unfold f52.ent
  split
  · rename_i d ha
    intro y hy hs
    refine call_ro (dep := 1000) (E := (E52 L N m)) (rs := (.one i64)) (v := (.tv i64 y)) (sound_of hΦ) okP (callI_sound (sound_of hΦ) okP 0 1000) (f := Try.f52) rfl hs ha ?_ rfl site
    refine (f52.b_eq L N m some d.1 d.2.1).trans ?_
    refine ((f52.b_nat (fun y => (some (.tv i64 y) : Option AV)) L N (f52 L N m) some d.1 d.2.1)).trans ?_
    rw [show f52.b L N (f52 L N m) some d.1 d.2.1 = some y from hy]
    rfl
  · intro y hy
    cases hy
theorem Φ52s_ok (L N : Nat) : ∀ m, TellsOk Try.prog (Φ52s L N m) := by
  intro m
  induction m with
  | zero => exact (addT_ok (Φ26_ok L N) (fun args vw site h => by unfold f52.ent; split <;> (intro y hy; cases hy)))
  | succ m ih => exact (addT_ok (Φ26_ok L N) (f52.ok L N m ih))
def Φ52 (L N : Nat) : Tells := (addT (Φ26 L N) 52 (f52.ent L N N))
theorem Φ52_ok (L N : Nat) : TellsOk Try.prog (Φ52 L N) := Φ52s_ok L N N
def f74.b' {R : Type} (L N : Nat) (k : Bool → Option R) (x0 : Int) : Option R :=
  bif (decide (x0 ≥ (-4 : Int))) then
    k (decide (x0 ≤ (4 : Int)))
  else k false
def f74.b {R : Type} (L N : Nat) (k : Bool → Option R) (x0 : Int) : Option R :=
  f74.b' L N k x0
def f74 (L N : Nat) (x0 : Int) : Option (Bool) := f74.b L N some x0
def f74.ent (L N : Nat) (args : List AV) (vw : View) (site : Nat) : Ans := match roD [i64] vw args with
  | some d => ⟨Bool, f74 L N d.1, fun y => ((.tv .bool y), [], [])⟩
  | none => Ans.no
noncomputable def E74 (L N : Nat) : Env := { P := Try.prog, ty := tyOf, Φ := (Φ52 L N), inl := fun _ => false, live := lives, liveX := livesX, L := L }
theorem f74.b_pre {R : Type} (L N : Nat) (κ : AV → Option R) (x0 : Int) :
    evBody (E74 L N) (evCallI (E74 L N) 0 1000) 1000 74 Try.f74 [(.tv i64 x0)] [] [] (finC (.one .bool) κ)
    = f74.b' L N (fun a0 => κ (.tv .bool a0)) x0 := by kernel_rfl
theorem f74.b_eq {R : Type} (L N : Nat) (κ : AV → Option R) (x0 : Int) :
    evBody (E74 L N) (evCallI (E74 L N) 0 1000) 1000 74 Try.f74 [(.tv i64 x0)] [] [] (finC (.one .bool) κ)
    = f74.b L N (fun a0 => κ (.tv .bool a0)) x0 := by
  rw [f74.b_pre]
  unfold f74.b
  rfl
theorem f74.b'_nat {R R' : Type} (j : R → Option R') (L N : Nat) (k : Bool → Option R) (x0 : Int) :
    f74.b' L N (fun a0 => (k a0).bind j) x0 = (f74.b' L N k x0).bind j := by
  unfold f74.b'
  repeat' (first | (with_reducible refine cond_nat ?_ ?_) | (with_reducible refine bind_nat fun _ => ?_) | rfl)
theorem f74.b_nat {R R' : Type} (j : R → Option R') (L N : Nat) (k : Bool → Option R) (x0 : Int) :
    f74.b L N (fun a0 => (k a0).bind j) x0 = (f74.b L N k x0).bind j := by
  unfold f74.b
  exact f74.b'_nat ..
theorem f74.ok (L N : Nat) (hΦ : TellsOk Try.prog ((Φ52 L N))) : EntOk Try.prog 74 (f74.ent L N) := by
  intro args vw site h
  unfold f74.ent
  split
  · rename_i d ha
    intro y hy hs
    refine call_ro (dep := 1000) (E := (E74 L N)) (rs := (.one .bool)) (v := (.tv .bool y)) (sound_of hΦ) okP (callI_sound (sound_of hΦ) okP 0 1000) (f := Try.f74) rfl hs ha ?_ rfl site
    refine (f74.b_eq L N some d.1).trans ?_
    refine ((f74.b_nat (fun y => (some (.tv .bool y) : Option AV)) L N some d.1)).trans ?_
    rw [show f74.b L N some d.1 = some y from hy]
    rfl
  · intro y hy
    cases hy
def Φ74 (L N : Nat) : Tells := (addT (Φ52 L N) 74 (f74.ent L N))
theorem Φ74_ok (L N : Nat) : TellsOk Try.prog (Φ74 L N) := addT_ok (Φ52_ok L N) (f74.ok L N (Φ52_ok L N))
def f53.s0' {R : Type} (L N : Nat) (self53 : Tree → Option (Bool)) (k0_e1 : Option R) (k0_r : Bool → Option R) (rec0 : (List Tree) → Int → Int → Option R) (s13 : (List Tree)) (s14 : Int) (s15 : Int) : Option R :=
  bif (decide (s15 < s14)) then
    bif (decide (0 ≤ s15) && decide (s15 < (s13.length : Int))) then
      (self53 (Tree.mk ((listAt s13 (Ty.dflt (.st 1)) s15.toNat).op) ((listAt s13 (Ty.dflt (.st 1)) s15.toNat).n) ((listAt s13 (Ty.dflt (.st 1)) s15.toNat).parts))).bind fun y16 =>
      bif (!y16) then
        k0_r false
      else rec0 s13 s14 (wi (s15 + (1 : Int)))
    else none
  else k0_e1
def f53.s0 {R : Type} (L N : Nat) (self53 : Tree → Option (Bool)) (k0_e1 : Option R) (k0_r : Bool → Option R) (rec0 : (List Tree) → Int → Int → Option R) (s13 : (List Tree)) (s14 : Int) (s15 : Int) : Option R :=
  f53.s0' L N self53 k0_e1 k0_r rec0 s13 s14 s15
def f53.l0 {R : Type} (L N : Nat) (self53 : Tree → Option (Bool)) (k0_e1 : Option R) (k0_r : Bool → Option R) : Nat → (List Tree) → Int → Int → Option R
  | 0, _, _, _ => none
  | n + 1, s13, s14, s15 => f53.s0 L N self53 k0_e1 k0_r (f53.l0 L N self53 k0_e1 k0_r n) s13 s14 s15
def f53.T0 (s13 : (List Tree)) (s14 : Int) (s15 : Int) : T := mkT 48 [(38, (.tv (.sl (.st 1)) s13)), (39, (.tv i64 s14)), (40, (.tv i64 s15))]
def f53.H0 (s13 : (List Tree)) (s14 : Int) (s15 : Int) : H := []
def f53.T0_e1 : T := mkT 48 []
def f53.H0_e1 : H := []
def f53.T0_r (z17 : Bool) : T := mkT 48 [(2, (.tv .bool z17))]
def f53.H0_r (z17 : Bool) : H := []
def f53.p0_e1' {R : Type} (L N : Nat) (self53 : Tree → Option (Bool)) (k : Bool → Option R) : Option R :=
  k true
def f53.p0_e1 {R : Type} (L N : Nat) (self53 : Tree → Option (Bool)) (k : Bool → Option R) : Option R :=
  f53.p0_e1' L N self53 k
def f53.p0_r' {R : Type} (L N : Nat) (self53 : Tree → Option (Bool)) (k : Bool → Option R) (z17 : Bool) : Option R :=
  k z17
def f53.p0_r {R : Type} (L N : Nat) (self53 : Tree → Option (Bool)) (k : Bool → Option R) (z17 : Bool) : Option R :=
  f53.p0_r' L N self53 k z17
def f53.j0' {R : Type} (L N : Nat) (self53 : Tree → Option (Bool)) (k : Bool → Option R) (w0 : (List Tree) → Int → Int → Option R) (v10 : Int) (v11 : Int) (v12 : (List Tree)) : Option R :=
  w0 v12 (v12.length : Int) (0 : Int)
def f53.j1' {R : Type} (L N : Nat) (self53 : Tree → Option (Bool)) (k : Bool → Option R) (w0 : (List Tree) → Int → Int → Option R) (v0 : Int) (v1 : Int) (v2 : Int) (v3 : (List Tree)) : Option R :=
  bif ((v3.length : Int) != v0) then
    k false
  else bif (v1 != (3 : Int)) then
    bif (v2 != (0 : Int)) then
      k false
    else (f74 L N v2).bind fun y4 =>
    bif (!y4) then
      k false
    else f53.j0' L N self53 k w0 v1 v2 v3
  else (f74 L N v2).bind fun y5 =>
  bif (!y5) then
    k false
  else f53.j0' L N self53 k w0 v1 v2 v3
def f53.b' {R : Type} (L N : Nat) (self53 : Tree → Option (Bool)) (k : Bool → Option R) (w0 : (List Tree) → Int → Int → Option R) (x0 : Tree) : Option R :=
  bif (x0.op == (0 : Int)) then
    f53.j1' L N self53 k w0 (0 : Int) x0.op x0.n x0.parts
  else bif (x0.op == (1 : Int)) then
    f53.j1' L N self53 k w0 (1 : Int) x0.op x0.n x0.parts
  else bif (x0.op == (2 : Int)) then
    f53.j1' L N self53 k w0 (2 : Int) x0.op x0.n x0.parts
  else bif (x0.op == (3 : Int)) then
    f53.j1' L N self53 k w0 (1 : Int) x0.op x0.n x0.parts
  else k false
def f53.b {R : Type} (L N : Nat) (self53 : Tree → Option (Bool)) (k : Bool → Option R) (x0 : Tree) : Option R :=
  f53.b' L N self53 k (fun s13 s14 s15 => f53.l0 L N self53 (f53.p0_e1 L N self53 k) (fun z17 => f53.p0_r L N self53 k z17) L s13 s14 s15) x0
def f53 (L N : Nat) : Nat → Tree → Option (Bool)
  | 0, _ => none
  | n + 1, x0 => f53.b L N (f53 L N n) some x0
def f53.ent (L N m : Nat) (args : List AV) (vw : View) (site : Nat) : Ans := match roD [(.st 1)] vw args with
  | some d => ⟨Bool, f53 L N m d.1, fun y => ((.tv .bool y), [], [])⟩
  | none => Ans.no
def Φ53s (L N m : Nat) : Tells := (addT (Φ74 L N) 53 (f53.ent L N m))
noncomputable def E53 (L N m : Nat) : Env := { P := Try.prog, ty := tyOf, Φ := Φ53s L N m, inl := fun _ => false, live := lives, liveX := livesX, L := L }
noncomputable def f53.c0 : Code := loopAt 1 (codeOf Try.f53)
theorem f53.s0_pre {R : Type} (L N m : Nat) (κ : Ex → T → H → Option R) (rec : T → H → Option R) (s13 : (List Tree)) (s14 : Int) (s15 : Int) :
    evRd (E53 L N m) (evCallI (E53 L N m) 0 1000) 1000 53 48 1 f53.c0 κ rec (f53.T0 s13 s14 s15) (f53.H0 s13 s14 s15)
    = f53.s0' L N (f53 L N m) (κ (.exit 1) f53.T0_e1 f53.H0_e1) (fun z17 => κ .ret (f53.T0_r z17) (f53.H0_r z17)) (fun s13 s14 s15 => rec (f53.T0 s13 s14 s15) (f53.H0 s13 s14 s15)) s13 s14 s15 := by kernel_rfl
theorem f53.s0_eq {R : Type} (L N m : Nat) (κ : Ex → T → H → Option R) (rec : T → H → Option R) (s13 : (List Tree)) (s14 : Int) (s15 : Int) :
    evRd (E53 L N m) (evCallI (E53 L N m) 0 1000) 1000 53 48 1 f53.c0 κ rec (f53.T0 s13 s14 s15) (f53.H0 s13 s14 s15)
    = f53.s0 L N (f53 L N m) (κ (.exit 1) f53.T0_e1 f53.H0_e1) (fun z17 => κ .ret (f53.T0_r z17) (f53.H0_r z17)) (fun s13 s14 s15 => rec (f53.T0 s13 s14 s15) (f53.H0 s13 s14 s15)) s13 s14 s15 := by
  rw [f53.s0_pre]
  unfold f53.s0
  rfl
theorem f53.l0_eq {R : Type} (L N m : Nat) (κ : Ex → T → H → Option R) : ∀ (n : Nat) (s13 : (List Tree)) (s14 : Int) (s15 : Int),
    evLp (E53 L N m) (evCallI (E53 L N m) 0 1000) 1000 53 48 1 f53.c0 κ n (f53.T0 s13 s14 s15) (f53.H0 s13 s14 s15)
    = f53.l0 L N (f53 L N m) (κ (.exit 1) f53.T0_e1 f53.H0_e1) (fun z17 => κ .ret (f53.T0_r z17) (f53.H0_r z17)) n s13 s14 s15 := by
  intro n
  induction n with
  | zero => intros; rfl
  | succ n ih =>
    intro s13 s14 s15
    rw [evLp_succ, f53.s0_eq]
    simp only [ih]
    rfl
theorem f53.p0_e1_pre {R : Type} (L N m : Nat) (κ : AV → Option R) :
    (contAt (E53 L N m) (evCallI (E53 L N m) 0 1000) 1000 53 48 1 (codeOf Try.f53) (finK (E53 L N m) 1000 Try.f53 (finC (.one .bool) κ))) (.exit 1) f53.T0_e1 f53.H0_e1
    = f53.p0_e1' L N (f53 L N m) (fun a0 => κ (.tv .bool a0)) := by kernel_rfl
theorem f53.p0_e1_eq {R : Type} (L N m : Nat) (κ : AV → Option R) :
    (contAt (E53 L N m) (evCallI (E53 L N m) 0 1000) 1000 53 48 1 (codeOf Try.f53) (finK (E53 L N m) 1000 Try.f53 (finC (.one .bool) κ))) (.exit 1) f53.T0_e1 f53.H0_e1
    = f53.p0_e1 L N (f53 L N m) (fun a0 => κ (.tv .bool a0)) := by
  rw [f53.p0_e1_pre]
  unfold f53.p0_e1
  rfl
theorem f53.p0_r_pre {R : Type} (L N m : Nat) (κ : AV → Option R) (z17 : Bool) :
    (contAt (E53 L N m) (evCallI (E53 L N m) 0 1000) 1000 53 48 1 (codeOf Try.f53) (finK (E53 L N m) 1000 Try.f53 (finC (.one .bool) κ))) .ret (f53.T0_r z17) (f53.H0_r z17)
    = f53.p0_r' L N (f53 L N m) (fun a0 => κ (.tv .bool a0)) z17 := by kernel_rfl
theorem f53.p0_r_eq {R : Type} (L N m : Nat) (κ : AV → Option R) (z17 : Bool) :
    (contAt (E53 L N m) (evCallI (E53 L N m) 0 1000) 1000 53 48 1 (codeOf Try.f53) (finK (E53 L N m) 1000 Try.f53 (finC (.one .bool) κ))) .ret (f53.T0_r z17) (f53.H0_r z17)
    = f53.p0_r L N (f53 L N m) (fun a0 => κ (.tv .bool a0)) z17 := by
  rw [f53.p0_r_pre]
  unfold f53.p0_r
  rfl
theorem f53.b_pre {R : Type} (L N m : Nat) (κ : AV → Option R) (x0 : Tree) :
    evBody (E53 L N m) (evCallI (E53 L N m) 0 1000) 1000 53 Try.f53 [(.tv (.st 1) x0)] [] [] (finC (.one .bool) κ)
    = f53.b' L N (f53 L N m) (fun a0 => κ (.tv .bool a0)) (fun s13 s14 s15 => evLp (E53 L N m) (evCallI (E53 L N m) 0 1000) 1000 53 48 1 f53.c0 (contAt (E53 L N m) (evCallI (E53 L N m) 0 1000) 1000 53 48 1 (codeOf Try.f53) (finK (E53 L N m) 1000 Try.f53 (finC (.one .bool) κ))) L (f53.T0 s13 s14 s15) (f53.H0 s13 s14 s15)) x0 := by kernel_rfl
theorem f53.b_eq {R : Type} (L N m : Nat) (κ : AV → Option R) (x0 : Tree) :
    evBody (E53 L N m) (evCallI (E53 L N m) 0 1000) 1000 53 Try.f53 [(.tv (.st 1) x0)] [] [] (finC (.one .bool) κ)
    = f53.b L N (f53 L N m) (fun a0 => κ (.tv .bool a0)) x0 := by
  rw [f53.b_pre]
  unfold f53.b
  simp only [f53.l0_eq, f53.p0_e1_eq, f53.p0_r_eq]
theorem f53.s0'_nat {R R' : Type} (j : R → Option R') (L N : Nat) (self53 : Tree → Option (Bool)) (k0_e1 : Option R) (k0_r : Bool → Option R) (rec0 : (List Tree) → Int → Int → Option R) (s13 : (List Tree)) (s14 : Int) (s15 : Int) :
    f53.s0' L N self53 (k0_e1.bind j) (fun a0 => (k0_r a0).bind j) (fun a0 a1 a2 => (rec0 a0 a1 a2).bind j) s13 s14 s15 = (f53.s0' L N self53 k0_e1 k0_r rec0 s13 s14 s15).bind j := by
  unfold f53.s0'
  repeat' (first | (with_reducible refine cond_nat ?_ ?_) | (with_reducible refine bind_nat fun _ => ?_) | rfl)
theorem f53.s0_nat {R R' : Type} (j : R → Option R') (L N : Nat) (self53 : Tree → Option (Bool)) (k0_e1 : Option R) (k0_r : Bool → Option R) (rec0 : (List Tree) → Int → Int → Option R) (s13 : (List Tree)) (s14 : Int) (s15 : Int) :
    f53.s0 L N self53 (k0_e1.bind j) (fun a0 => (k0_r a0).bind j) (fun a0 a1 a2 => (rec0 a0 a1 a2).bind j) s13 s14 s15 = (f53.s0 L N self53 k0_e1 k0_r rec0 s13 s14 s15).bind j := by
  unfold f53.s0
  exact f53.s0'_nat ..
theorem f53.l0_nat {R R' : Type} (j : R → Option R') (L N : Nat) (self53 : Tree → Option (Bool)) (k0_e1 : Option R) (k0_r : Bool → Option R) : ∀ (n : Nat) (s13 : (List Tree)) (s14 : Int) (s15 : Int),
    f53.l0 L N self53 (k0_e1.bind j) (fun a0 => (k0_r a0).bind j) n s13 s14 s15 = (f53.l0 L N self53 k0_e1 k0_r n s13 s14 s15).bind j := by
  intro n
  induction n with
  | zero => intros; rfl
  | succ n ih =>
    intro s13 s14 s15
    show f53.s0 L N self53 (k0_e1.bind j) (fun a0 => (k0_r a0).bind j) (f53.l0 L N self53 (k0_e1.bind j) (fun a0 => (k0_r a0).bind j) n) s13 s14 s15 = _
    rw [show f53.l0 L N self53 (k0_e1.bind j) (fun a0 => (k0_r a0).bind j) n = (fun s13 s14 s15 => (f53.l0 L N self53 k0_e1 k0_r n s13 s14 s15).bind j) from funext fun s13 => funext fun s14 => funext fun s15 => ih s13 s14 s15]
    exact f53.s0_nat ..
theorem f53.p0_e1'_nat {R R' : Type} (j : R → Option R') (L N : Nat) (self53 : Tree → Option (Bool)) (k : Bool → Option R) :
    f53.p0_e1' L N self53 (fun a0 => (k a0).bind j) = (f53.p0_e1' L N self53 k).bind j := by
  unfold f53.p0_e1'
  repeat' (first | (with_reducible refine cond_nat ?_ ?_) | (with_reducible refine bind_nat fun _ => ?_) | rfl)
theorem f53.p0_e1_nat {R R' : Type} (j : R → Option R') (L N : Nat) (self53 : Tree → Option (Bool)) (k : Bool → Option R) :
    f53.p0_e1 L N self53 (fun a0 => (k a0).bind j) = (f53.p0_e1 L N self53 k).bind j := by
  unfold f53.p0_e1
  exact f53.p0_e1'_nat ..
theorem f53.p0_r'_nat {R R' : Type} (j : R → Option R') (L N : Nat) (self53 : Tree → Option (Bool)) (k : Bool → Option R) (z17 : Bool) :
    f53.p0_r' L N self53 (fun a0 => (k a0).bind j) z17 = (f53.p0_r' L N self53 k z17).bind j := by
  unfold f53.p0_r'
  repeat' (first | (with_reducible refine cond_nat ?_ ?_) | (with_reducible refine bind_nat fun _ => ?_) | rfl)
theorem f53.p0_r_nat {R R' : Type} (j : R → Option R') (L N : Nat) (self53 : Tree → Option (Bool)) (k : Bool → Option R) (z17 : Bool) :
    f53.p0_r L N self53 (fun a0 => (k a0).bind j) z17 = (f53.p0_r L N self53 k z17).bind j := by
  unfold f53.p0_r
  exact f53.p0_r'_nat ..
theorem f53.j0'_nat {R R' : Type} (j : R → Option R') (L N : Nat) (self53 : Tree → Option (Bool)) (k : Bool → Option R) (w0 : (List Tree) → Int → Int → Option R) (v10 : Int) (v11 : Int) (v12 : (List Tree)) :
    f53.j0' L N self53 (fun a0 => (k a0).bind j) (fun a0 a1 a2 => (w0 a0 a1 a2).bind j) v10 v11 v12 = (f53.j0' L N self53 k w0 v10 v11 v12).bind j := by
  unfold f53.j0'
  repeat' (first | (with_reducible refine cond_nat ?_ ?_) | (with_reducible refine bind_nat fun _ => ?_) | rfl)
theorem f53.j1'_nat {R R' : Type} (j : R → Option R') (L N : Nat) (self53 : Tree → Option (Bool)) (k : Bool → Option R) (w0 : (List Tree) → Int → Int → Option R) (v0 : Int) (v1 : Int) (v2 : Int) (v3 : (List Tree)) :
    f53.j1' L N self53 (fun a0 => (k a0).bind j) (fun a0 a1 a2 => (w0 a0 a1 a2).bind j) v0 v1 v2 v3 = (f53.j1' L N self53 k w0 v0 v1 v2 v3).bind j := by
  unfold f53.j1'
  repeat' (first | (with_reducible refine cond_nat ?_ ?_) | (with_reducible refine bind_nat fun _ => ?_) | exact f53.j0'_nat .. | rfl)
theorem f53.b'_nat {R R' : Type} (j : R → Option R') (L N : Nat) (self53 : Tree → Option (Bool)) (k : Bool → Option R) (w0 : (List Tree) → Int → Int → Option R) (x0 : Tree) :
    f53.b' L N self53 (fun a0 => (k a0).bind j) (fun a0 a1 a2 => (w0 a0 a1 a2).bind j) x0 = (f53.b' L N self53 k w0 x0).bind j := by
  unfold f53.b'
  repeat' (first | (with_reducible refine cond_nat ?_ ?_) | (with_reducible refine bind_nat fun _ => ?_) | exact f53.j0'_nat .. | exact f53.j1'_nat .. | rfl)
theorem f53.b_nat {R R' : Type} (j : R → Option R') (L N : Nat) (self53 : Tree → Option (Bool)) (k : Bool → Option R) (x0 : Tree) :
    f53.b L N self53 (fun a0 => (k a0).bind j) x0 = (f53.b L N self53 k x0).bind j := by
  unfold f53.b
  simp only [f53.l0_nat, f53.p0_e1_nat, f53.p0_r_nat]
  exact f53.b'_nat ..
theorem f53.ok (L N m : Nat) (hΦ : TellsOk Try.prog (Φ53s L N m)) : EntOk Try.prog 53 (f53.ent L N (m + 1)) := by
  intro args vw site h
  unfold f53.ent
  split
  · rename_i d ha
    intro y hy hs
    refine call_ro (dep := 1000) (E := (E53 L N m)) (rs := (.one .bool)) (v := (.tv .bool y)) (sound_of hΦ) okP (callI_sound (sound_of hΦ) okP 0 1000) (f := Try.f53) rfl hs ha ?_ rfl site
    refine (f53.b_eq L N m some d.1).trans ?_
    refine ((f53.b_nat (fun y => (some (.tv .bool y) : Option AV)) L N (f53 L N m) some d.1)).trans ?_
    rw [show f53.b L N (f53 L N m) some d.1 = some y from hy]
    rfl
  · intro y hy
    cases hy
theorem Φ53s_ok (L N : Nat) : ∀ m, TellsOk Try.prog (Φ53s L N m) := by
  intro m
  induction m with
  | zero => exact (addT_ok (Φ74_ok L N) (fun args vw site h => by unfold f53.ent; split <;> (intro y hy; cases hy)))
  | succ m ih => exact (addT_ok (Φ74_ok L N) (f53.ok L N m ih))
def Φ53 (L N : Nat) : Tells := (addT (Φ74 L N) 53 (f53.ent L N N))
theorem Φ53_ok (L N : Nat) : TellsOk Try.prog (Φ53 L N) := Φ53s_ok L N N
def f27.b' {R : Type} (L N : Nat) (k : Bool → Option R) (x0 : Tree) : Option R :=
  (f52 L N N (Tree.mk x0.op x0.n x0.parts) (60 : Int)).bind fun y0 =>
  bif (decide (y0 ≤ (60 : Int))) then
    (f53 L N N (Tree.mk x0.op x0.n x0.parts)).bind fun y1 =>
    k y1
  else k false
def f27.b {R : Type} (L N : Nat) (k : Bool → Option R) (x0 : Tree) : Option R :=
  f27.b' L N k x0
def f27 (L N : Nat) (x0 : Tree) : Option (Bool) := f27.b L N some x0
def f27.ent (L N : Nat) (args : List AV) (vw : View) (site : Nat) : Ans := match roD [(.st 1)] vw args with
  | some d => ⟨Bool, f27 L N d.1, fun y => ((.tv .bool y), [], [])⟩
  | none => Ans.no
noncomputable def E27 (L N : Nat) : Env := { P := Try.prog, ty := tyOf, Φ := (Φ53 L N), inl := fun _ => false, live := lives, liveX := livesX, L := L }
theorem f27.b_pre {R : Type} (L N : Nat) (κ : AV → Option R) (x0 : Tree) :
    evBody (E27 L N) (evCallI (E27 L N) 0 1000) 1000 27 Try.f27 [(.tv (.st 1) x0)] [] [] (finC (.one .bool) κ)
    = f27.b' L N (fun a0 => κ (.tv .bool a0)) x0 := by kernel_rfl
theorem f27.b_eq {R : Type} (L N : Nat) (κ : AV → Option R) (x0 : Tree) :
    evBody (E27 L N) (evCallI (E27 L N) 0 1000) 1000 27 Try.f27 [(.tv (.st 1) x0)] [] [] (finC (.one .bool) κ)
    = f27.b L N (fun a0 => κ (.tv .bool a0)) x0 := by
  rw [f27.b_pre]
  unfold f27.b
  rfl
theorem f27.b'_nat {R R' : Type} (j : R → Option R') (L N : Nat) (k : Bool → Option R) (x0 : Tree) :
    f27.b' L N (fun a0 => (k a0).bind j) x0 = (f27.b' L N k x0).bind j := by
  unfold f27.b'
  repeat' (first | (with_reducible refine cond_nat ?_ ?_) | (with_reducible refine bind_nat fun _ => ?_) | rfl)
theorem f27.b_nat {R R' : Type} (j : R → Option R') (L N : Nat) (k : Bool → Option R) (x0 : Tree) :
    f27.b L N (fun a0 => (k a0).bind j) x0 = (f27.b L N k x0).bind j := by
  unfold f27.b
  exact f27.b'_nat ..
theorem f27.ok (L N : Nat) (hΦ : TellsOk Try.prog ((Φ53 L N))) : EntOk Try.prog 27 (f27.ent L N) := by
  intro args vw site h
  unfold f27.ent
  split
  · rename_i d ha
    intro y hy hs
    refine call_ro (dep := 1000) (E := (E27 L N)) (rs := (.one .bool)) (v := (.tv .bool y)) (sound_of hΦ) okP (callI_sound (sound_of hΦ) okP 0 1000) (f := Try.f27) rfl hs ha ?_ rfl site
    refine (f27.b_eq L N some d.1).trans ?_
    refine ((f27.b_nat (fun y => (some (.tv .bool y) : Option AV)) L N some d.1)).trans ?_
    rw [show f27.b L N some d.1 = some y from hy]
    rfl
  · intro y hy
    cases hy
def Φ27 (L N : Nat) : Tells := (addT (Φ53 L N) 27 (f27.ent L N))
theorem Φ27_ok (L N : Nat) : TellsOk Try.prog (Φ27 L N) := addT_ok (Φ53_ok L N) (f27.ok L N (Φ53_ok L N))
def f28.b' {R : Type} (L N : Nat) (self28 : Tree → Tree → Option (Bool)) (self54 : (List Tree) → (List Tree) → Option (Bool)) (k : Bool → Option R) (x0 : Tree) (x1 : Tree) : Option R :=
  bif (x0.op != x1.op) then
    k false
  else bif (x0.n != x1.n) then
    k false
  else (self54 x0.parts x1.parts).bind fun y0 =>
  bif (!y0) then
    k false
  else k true
def f28.b {R : Type} (L N : Nat) (self28 : Tree → Tree → Option (Bool)) (self54 : (List Tree) → (List Tree) → Option (Bool)) (k : Bool → Option R) (x0 : Tree) (x1 : Tree) : Option R :=
  f28.b' L N self28 self54 k x0 x1
def f54.s0' {R : Type} (L N : Nat) (self28 : Tree → Tree → Option (Bool)) (self54 : (List Tree) → (List Tree) → Option (Bool)) (k0_e0 : Option R) (k0_r : Bool → Option R) (rec0 : (List Tree) → (List Tree) → Int → Option R) (s0 : (List Tree)) (s1 : (List Tree)) (s2 : Int) : Option R :=
  bif (decide (s2 < (s0.length : Int))) then
    bif (decide (0 ≤ s2) && decide (s2 < (s0.length : Int))) then
      bif (decide (0 ≤ s2) && decide (s2 < (s1.length : Int))) then
        (self28 (listAt s0 (Ty.dflt (.st 1)) s2.toNat) (listAt s1 (Ty.dflt (.st 1)) s2.toNat)).bind fun y3 =>
        bif (!y3) then
          k0_r false
        else rec0 s0 s1 (wi (s2 + (1 : Int)))
      else none
    else none
  else k0_e0
def f54.s0 {R : Type} (L N : Nat) (self28 : Tree → Tree → Option (Bool)) (self54 : (List Tree) → (List Tree) → Option (Bool)) (k0_e0 : Option R) (k0_r : Bool → Option R) (rec0 : (List Tree) → (List Tree) → Int → Option R) (s0 : (List Tree)) (s1 : (List Tree)) (s2 : Int) : Option R :=
  f54.s0' L N self28 self54 k0_e0 k0_r rec0 s0 s1 s2
def f54.l0 {R : Type} (L N : Nat) (self28 : Tree → Tree → Option (Bool)) (self54 : (List Tree) → (List Tree) → Option (Bool)) (k0_e0 : Option R) (k0_r : Bool → Option R) : Nat → (List Tree) → (List Tree) → Int → Option R
  | 0, _, _, _ => none
  | n + 1, s0, s1, s2 => f54.s0 L N self28 self54 k0_e0 k0_r (f54.l0 L N self28 self54 k0_e0 k0_r n) s0 s1 s2
def f54.T0 (s0 : (List Tree)) (s1 : (List Tree)) (s2 : Int) : T := mkT 27 [(0, (.tv (.sl (.st 1)) s0)), (1, (.tv (.sl (.st 1)) s1)), (5, (.tv i64 s2))]
def f54.H0 (s0 : (List Tree)) (s1 : (List Tree)) (s2 : Int) : H := []
def f54.T0_e0 : T := mkT 27 []
def f54.H0_e0 : H := []
def f54.T0_r (z4 : Bool) : T := mkT 27 [(4, (.tv .bool z4))]
def f54.H0_r (z4 : Bool) : H := []
def f54.p0_e0' {R : Type} (L N : Nat) (self28 : Tree → Tree → Option (Bool)) (self54 : (List Tree) → (List Tree) → Option (Bool)) (k : Bool → Option R) : Option R :=
  k true
def f54.p0_e0 {R : Type} (L N : Nat) (self28 : Tree → Tree → Option (Bool)) (self54 : (List Tree) → (List Tree) → Option (Bool)) (k : Bool → Option R) : Option R :=
  f54.p0_e0' L N self28 self54 k
def f54.p0_r' {R : Type} (L N : Nat) (self28 : Tree → Tree → Option (Bool)) (self54 : (List Tree) → (List Tree) → Option (Bool)) (k : Bool → Option R) (z4 : Bool) : Option R :=
  k z4
def f54.p0_r {R : Type} (L N : Nat) (self28 : Tree → Tree → Option (Bool)) (self54 : (List Tree) → (List Tree) → Option (Bool)) (k : Bool → Option R) (z4 : Bool) : Option R :=
  f54.p0_r' L N self28 self54 k z4
def f54.b' {R : Type} (L N : Nat) (self28 : Tree → Tree → Option (Bool)) (self54 : (List Tree) → (List Tree) → Option (Bool)) (k : Bool → Option R) (w0 : (List Tree) → (List Tree) → Int → Option R) (x0 : (List Tree)) (x1 : (List Tree)) : Option R :=
  bif ((x0.length : Int) != (x1.length : Int)) then
    k false
  else w0 x0 x1 (0 : Int)
def f54.b {R : Type} (L N : Nat) (self28 : Tree → Tree → Option (Bool)) (self54 : (List Tree) → (List Tree) → Option (Bool)) (k : Bool → Option R) (x0 : (List Tree)) (x1 : (List Tree)) : Option R :=
  f54.b' L N self28 self54 k (fun s0 s1 s2 => f54.l0 L N self28 self54 (f54.p0_e0 L N self28 self54 k) (fun z4 => f54.p0_r L N self28 self54 k z4) L s0 s1 s2) x0 x1
mutual
def f28 (L N : Nat) : Nat → Tree → Tree → Option (Bool)
  | 0, _, _ => none
  | n + 1, x0, x1 => f28.b L N (f28 L N n) (f54 L N n) some x0 x1
def f54 (L N : Nat) : Nat → (List Tree) → (List Tree) → Option (Bool)
  | 0, _, _ => none
  | n + 1, x0, x1 => f54.b L N (f28 L N n) (f54 L N n) some x0 x1
end
def f28.ent (L N m : Nat) (args : List AV) (vw : View) (site : Nat) : Ans := match roD [(.st 1), (.st 1)] vw args with
  | some d => ⟨Bool, f28 L N m d.1 d.2.1, fun y => ((.tv .bool y), [], [])⟩
  | none => Ans.no
def f54.ent (L N m : Nat) (args : List AV) (vw : View) (site : Nat) : Ans := match roD [(.sl (.st 1)), (.sl (.st 1))] vw args with
  | some d => ⟨Bool, f54 L N m d.1 d.2.1, fun y => ((.tv .bool y), [], [])⟩
  | none => Ans.no
def Φ28s (L N m : Nat) : Tells := (addT (addT (Φ27 L N) 28 (f28.ent L N m)) 54 (f54.ent L N m))
noncomputable def E28 (L N m : Nat) : Env := { P := Try.prog, ty := tyOf, Φ := Φ28s L N m, inl := fun _ => false, live := lives, liveX := livesX, L := L }
theorem f28.b_pre {R : Type} (L N m : Nat) (κ : AV → Option R) (x0 : Tree) (x1 : Tree) :
    evBody (E28 L N m) (evCallI (E28 L N m) 0 1000) 1000 28 Try.f28 [(.tv (.st 1) x0), (.tv (.st 1) x1)] [] [] (finC (.one .bool) κ)
    = f28.b' L N (f28 L N m) (f54 L N m) (fun a0 => κ (.tv .bool a0)) x0 x1 := by kernel_rfl
theorem f28.b_eq {R : Type} (L N m : Nat) (κ : AV → Option R) (x0 : Tree) (x1 : Tree) :
    evBody (E28 L N m) (evCallI (E28 L N m) 0 1000) 1000 28 Try.f28 [(.tv (.st 1) x0), (.tv (.st 1) x1)] [] [] (finC (.one .bool) κ)
    = f28.b L N (f28 L N m) (f54 L N m) (fun a0 => κ (.tv .bool a0)) x0 x1 := by
  rw [f28.b_pre]
  unfold f28.b
  rfl
noncomputable def f54.c0 : Code := loopAt 0 (codeOf Try.f54)
theorem f54.s0_pre {R : Type} (L N m : Nat) (κ : Ex → T → H → Option R) (rec : T → H → Option R) (s0 : (List Tree)) (s1 : (List Tree)) (s2 : Int) :
    evRd (E28 L N m) (evCallI (E28 L N m) 0 1000) 1000 54 27 0 f54.c0 κ rec (f54.T0 s0 s1 s2) (f54.H0 s0 s1 s2)
    = f54.s0' L N (f28 L N m) (f54 L N m) (κ (.exit 0) f54.T0_e0 f54.H0_e0) (fun z4 => κ .ret (f54.T0_r z4) (f54.H0_r z4)) (fun s0 s1 s2 => rec (f54.T0 s0 s1 s2) (f54.H0 s0 s1 s2)) s0 s1 s2 := by kernel_rfl
theorem f54.s0_eq {R : Type} (L N m : Nat) (κ : Ex → T → H → Option R) (rec : T → H → Option R) (s0 : (List Tree)) (s1 : (List Tree)) (s2 : Int) :
    evRd (E28 L N m) (evCallI (E28 L N m) 0 1000) 1000 54 27 0 f54.c0 κ rec (f54.T0 s0 s1 s2) (f54.H0 s0 s1 s2)
    = f54.s0 L N (f28 L N m) (f54 L N m) (κ (.exit 0) f54.T0_e0 f54.H0_e0) (fun z4 => κ .ret (f54.T0_r z4) (f54.H0_r z4)) (fun s0 s1 s2 => rec (f54.T0 s0 s1 s2) (f54.H0 s0 s1 s2)) s0 s1 s2 := by
  rw [f54.s0_pre]
  unfold f54.s0
  rfl
theorem f54.l0_eq {R : Type} (L N m : Nat) (κ : Ex → T → H → Option R) : ∀ (n : Nat) (s0 : (List Tree)) (s1 : (List Tree)) (s2 : Int),
    evLp (E28 L N m) (evCallI (E28 L N m) 0 1000) 1000 54 27 0 f54.c0 κ n (f54.T0 s0 s1 s2) (f54.H0 s0 s1 s2)
    = f54.l0 L N (f28 L N m) (f54 L N m) (κ (.exit 0) f54.T0_e0 f54.H0_e0) (fun z4 => κ .ret (f54.T0_r z4) (f54.H0_r z4)) n s0 s1 s2 := by
  intro n
  induction n with
  | zero => intros; rfl
  | succ n ih =>
    intro s0 s1 s2
    rw [evLp_succ, f54.s0_eq]
    simp only [ih]
    rfl
theorem f54.p0_e0_pre {R : Type} (L N m : Nat) (κ : AV → Option R) :
    (contAt (E28 L N m) (evCallI (E28 L N m) 0 1000) 1000 54 27 0 (codeOf Try.f54) (finK (E28 L N m) 1000 Try.f54 (finC (.one .bool) κ))) (.exit 0) f54.T0_e0 f54.H0_e0
    = f54.p0_e0' L N (f28 L N m) (f54 L N m) (fun a0 => κ (.tv .bool a0)) := by kernel_rfl
theorem f54.p0_e0_eq {R : Type} (L N m : Nat) (κ : AV → Option R) :
    (contAt (E28 L N m) (evCallI (E28 L N m) 0 1000) 1000 54 27 0 (codeOf Try.f54) (finK (E28 L N m) 1000 Try.f54 (finC (.one .bool) κ))) (.exit 0) f54.T0_e0 f54.H0_e0
    = f54.p0_e0 L N (f28 L N m) (f54 L N m) (fun a0 => κ (.tv .bool a0)) := by
  rw [f54.p0_e0_pre]
  unfold f54.p0_e0
  rfl
theorem f54.p0_r_pre {R : Type} (L N m : Nat) (κ : AV → Option R) (z4 : Bool) :
    (contAt (E28 L N m) (evCallI (E28 L N m) 0 1000) 1000 54 27 0 (codeOf Try.f54) (finK (E28 L N m) 1000 Try.f54 (finC (.one .bool) κ))) .ret (f54.T0_r z4) (f54.H0_r z4)
    = f54.p0_r' L N (f28 L N m) (f54 L N m) (fun a0 => κ (.tv .bool a0)) z4 := by kernel_rfl
theorem f54.p0_r_eq {R : Type} (L N m : Nat) (κ : AV → Option R) (z4 : Bool) :
    (contAt (E28 L N m) (evCallI (E28 L N m) 0 1000) 1000 54 27 0 (codeOf Try.f54) (finK (E28 L N m) 1000 Try.f54 (finC (.one .bool) κ))) .ret (f54.T0_r z4) (f54.H0_r z4)
    = f54.p0_r L N (f28 L N m) (f54 L N m) (fun a0 => κ (.tv .bool a0)) z4 := by
  rw [f54.p0_r_pre]
  unfold f54.p0_r
  rfl
theorem f54.b_pre {R : Type} (L N m : Nat) (κ : AV → Option R) (x0 : (List Tree)) (x1 : (List Tree)) :
    evBody (E28 L N m) (evCallI (E28 L N m) 0 1000) 1000 54 Try.f54 [(.tv (.sl (.st 1)) x0), (.tv (.sl (.st 1)) x1)] [] [] (finC (.one .bool) κ)
    = f54.b' L N (f28 L N m) (f54 L N m) (fun a0 => κ (.tv .bool a0)) (fun s0 s1 s2 => evLp (E28 L N m) (evCallI (E28 L N m) 0 1000) 1000 54 27 0 f54.c0 (contAt (E28 L N m) (evCallI (E28 L N m) 0 1000) 1000 54 27 0 (codeOf Try.f54) (finK (E28 L N m) 1000 Try.f54 (finC (.one .bool) κ))) L (f54.T0 s0 s1 s2) (f54.H0 s0 s1 s2)) x0 x1 := by kernel_rfl
theorem f54.b_eq {R : Type} (L N m : Nat) (κ : AV → Option R) (x0 : (List Tree)) (x1 : (List Tree)) :
    evBody (E28 L N m) (evCallI (E28 L N m) 0 1000) 1000 54 Try.f54 [(.tv (.sl (.st 1)) x0), (.tv (.sl (.st 1)) x1)] [] [] (finC (.one .bool) κ)
    = f54.b L N (f28 L N m) (f54 L N m) (fun a0 => κ (.tv .bool a0)) x0 x1 := by
  rw [f54.b_pre]
  unfold f54.b
  simp only [f54.l0_eq, f54.p0_e0_eq, f54.p0_r_eq]
theorem f28.b'_nat {R R' : Type} (j : R → Option R') (L N : Nat) (self28 : Tree → Tree → Option (Bool)) (self54 : (List Tree) → (List Tree) → Option (Bool)) (k : Bool → Option R) (x0 : Tree) (x1 : Tree) :
    f28.b' L N self28 self54 (fun a0 => (k a0).bind j) x0 x1 = (f28.b' L N self28 self54 k x0 x1).bind j := by
  unfold f28.b'
  repeat' (first | (with_reducible refine cond_nat ?_ ?_) | (with_reducible refine bind_nat fun _ => ?_) | rfl)
theorem f28.b_nat {R R' : Type} (j : R → Option R') (L N : Nat) (self28 : Tree → Tree → Option (Bool)) (self54 : (List Tree) → (List Tree) → Option (Bool)) (k : Bool → Option R) (x0 : Tree) (x1 : Tree) :
    f28.b L N self28 self54 (fun a0 => (k a0).bind j) x0 x1 = (f28.b L N self28 self54 k x0 x1).bind j := by
  unfold f28.b
  exact f28.b'_nat ..
theorem f54.s0'_nat {R R' : Type} (j : R → Option R') (L N : Nat) (self28 : Tree → Tree → Option (Bool)) (self54 : (List Tree) → (List Tree) → Option (Bool)) (k0_e0 : Option R) (k0_r : Bool → Option R) (rec0 : (List Tree) → (List Tree) → Int → Option R) (s0 : (List Tree)) (s1 : (List Tree)) (s2 : Int) :
    f54.s0' L N self28 self54 (k0_e0.bind j) (fun a0 => (k0_r a0).bind j) (fun a0 a1 a2 => (rec0 a0 a1 a2).bind j) s0 s1 s2 = (f54.s0' L N self28 self54 k0_e0 k0_r rec0 s0 s1 s2).bind j := by
  unfold f54.s0'
  repeat' (first | (with_reducible refine cond_nat ?_ ?_) | (with_reducible refine bind_nat fun _ => ?_) | rfl)
theorem f54.s0_nat {R R' : Type} (j : R → Option R') (L N : Nat) (self28 : Tree → Tree → Option (Bool)) (self54 : (List Tree) → (List Tree) → Option (Bool)) (k0_e0 : Option R) (k0_r : Bool → Option R) (rec0 : (List Tree) → (List Tree) → Int → Option R) (s0 : (List Tree)) (s1 : (List Tree)) (s2 : Int) :
    f54.s0 L N self28 self54 (k0_e0.bind j) (fun a0 => (k0_r a0).bind j) (fun a0 a1 a2 => (rec0 a0 a1 a2).bind j) s0 s1 s2 = (f54.s0 L N self28 self54 k0_e0 k0_r rec0 s0 s1 s2).bind j := by
  unfold f54.s0
  exact f54.s0'_nat ..
theorem f54.l0_nat {R R' : Type} (j : R → Option R') (L N : Nat) (self28 : Tree → Tree → Option (Bool)) (self54 : (List Tree) → (List Tree) → Option (Bool)) (k0_e0 : Option R) (k0_r : Bool → Option R) : ∀ (n : Nat) (s0 : (List Tree)) (s1 : (List Tree)) (s2 : Int),
    f54.l0 L N self28 self54 (k0_e0.bind j) (fun a0 => (k0_r a0).bind j) n s0 s1 s2 = (f54.l0 L N self28 self54 k0_e0 k0_r n s0 s1 s2).bind j := by
  intro n
  induction n with
  | zero => intros; rfl
  | succ n ih =>
    intro s0 s1 s2
    show f54.s0 L N self28 self54 (k0_e0.bind j) (fun a0 => (k0_r a0).bind j) (f54.l0 L N self28 self54 (k0_e0.bind j) (fun a0 => (k0_r a0).bind j) n) s0 s1 s2 = _
    rw [show f54.l0 L N self28 self54 (k0_e0.bind j) (fun a0 => (k0_r a0).bind j) n = (fun s0 s1 s2 => (f54.l0 L N self28 self54 k0_e0 k0_r n s0 s1 s2).bind j) from funext fun s0 => funext fun s1 => funext fun s2 => ih s0 s1 s2]
    exact f54.s0_nat ..
theorem f54.p0_e0'_nat {R R' : Type} (j : R → Option R') (L N : Nat) (self28 : Tree → Tree → Option (Bool)) (self54 : (List Tree) → (List Tree) → Option (Bool)) (k : Bool → Option R) :
    f54.p0_e0' L N self28 self54 (fun a0 => (k a0).bind j) = (f54.p0_e0' L N self28 self54 k).bind j := by
  unfold f54.p0_e0'
  repeat' (first | (with_reducible refine cond_nat ?_ ?_) | (with_reducible refine bind_nat fun _ => ?_) | rfl)
theorem f54.p0_e0_nat {R R' : Type} (j : R → Option R') (L N : Nat) (self28 : Tree → Tree → Option (Bool)) (self54 : (List Tree) → (List Tree) → Option (Bool)) (k : Bool → Option R) :
    f54.p0_e0 L N self28 self54 (fun a0 => (k a0).bind j) = (f54.p0_e0 L N self28 self54 k).bind j := by
  unfold f54.p0_e0
  exact f54.p0_e0'_nat ..
theorem f54.p0_r'_nat {R R' : Type} (j : R → Option R') (L N : Nat) (self28 : Tree → Tree → Option (Bool)) (self54 : (List Tree) → (List Tree) → Option (Bool)) (k : Bool → Option R) (z4 : Bool) :
    f54.p0_r' L N self28 self54 (fun a0 => (k a0).bind j) z4 = (f54.p0_r' L N self28 self54 k z4).bind j := by
  unfold f54.p0_r'
  repeat' (first | (with_reducible refine cond_nat ?_ ?_) | (with_reducible refine bind_nat fun _ => ?_) | rfl)
theorem f54.p0_r_nat {R R' : Type} (j : R → Option R') (L N : Nat) (self28 : Tree → Tree → Option (Bool)) (self54 : (List Tree) → (List Tree) → Option (Bool)) (k : Bool → Option R) (z4 : Bool) :
    f54.p0_r L N self28 self54 (fun a0 => (k a0).bind j) z4 = (f54.p0_r L N self28 self54 k z4).bind j := by
  unfold f54.p0_r
  exact f54.p0_r'_nat ..
theorem f54.b'_nat {R R' : Type} (j : R → Option R') (L N : Nat) (self28 : Tree → Tree → Option (Bool)) (self54 : (List Tree) → (List Tree) → Option (Bool)) (k : Bool → Option R) (w0 : (List Tree) → (List Tree) → Int → Option R) (x0 : (List Tree)) (x1 : (List Tree)) :
    f54.b' L N self28 self54 (fun a0 => (k a0).bind j) (fun a0 a1 a2 => (w0 a0 a1 a2).bind j) x0 x1 = (f54.b' L N self28 self54 k w0 x0 x1).bind j := by
  unfold f54.b'
  repeat' (first | (with_reducible refine cond_nat ?_ ?_) | (with_reducible refine bind_nat fun _ => ?_) | rfl)
theorem f54.b_nat {R R' : Type} (j : R → Option R') (L N : Nat) (self28 : Tree → Tree → Option (Bool)) (self54 : (List Tree) → (List Tree) → Option (Bool)) (k : Bool → Option R) (x0 : (List Tree)) (x1 : (List Tree)) :
    f54.b L N self28 self54 (fun a0 => (k a0).bind j) x0 x1 = (f54.b L N self28 self54 k x0 x1).bind j := by
  unfold f54.b
  simp only [f54.l0_nat, f54.p0_e0_nat, f54.p0_r_nat]
  exact f54.b'_nat ..
theorem f28.ok (L N m : Nat) (hΦ : TellsOk Try.prog (Φ28s L N m)) : EntOk Try.prog 28 (f28.ent L N (m + 1)) := by
  intro args vw site h
  unfold f28.ent
  split
  · rename_i d ha
    intro y hy hs
    refine call_ro (dep := 1000) (E := (E28 L N m)) (rs := (.one .bool)) (v := (.tv .bool y)) (sound_of hΦ) okP (callI_sound (sound_of hΦ) okP 0 1000) (f := Try.f28) rfl hs ha ?_ rfl site
    refine (f28.b_eq L N m some d.1 d.2.1).trans ?_
    refine ((f28.b_nat (fun y => (some (.tv .bool y) : Option AV)) L N (f28 L N m) (f54 L N m) some d.1 d.2.1)).trans ?_
    rw [show f28.b L N (f28 L N m) (f54 L N m) some d.1 d.2.1 = some y from hy]
    rfl
  · intro y hy
    cases hy
theorem f54.ok (L N m : Nat) (hΦ : TellsOk Try.prog (Φ28s L N m)) : EntOk Try.prog 54 (f54.ent L N (m + 1)) := by
  intro args vw site h
  unfold f54.ent
  split
  · rename_i d ha
    intro y hy hs
    refine call_ro (dep := 1000) (E := (E28 L N m)) (rs := (.one .bool)) (v := (.tv .bool y)) (sound_of hΦ) okP (callI_sound (sound_of hΦ) okP 0 1000) (f := Try.f54) rfl hs ha ?_ rfl site
    refine (f54.b_eq L N m some d.1 d.2.1).trans ?_
    refine ((f54.b_nat (fun y => (some (.tv .bool y) : Option AV)) L N (f28 L N m) (f54 L N m) some d.1 d.2.1)).trans ?_
    rw [show f54.b L N (f28 L N m) (f54 L N m) some d.1 d.2.1 = some y from hy]
    rfl
  · intro y hy
    cases hy
theorem Φ28s_ok (L N : Nat) : ∀ m, TellsOk Try.prog (Φ28s L N m) := by
  intro m
  induction m with
  | zero => exact (addT_ok (addT_ok (Φ27_ok L N) (fun args vw site h => by unfold f28.ent; split <;> (intro y hy; cases hy))) (fun args vw site h => by unfold f54.ent; split <;> (intro y hy; cases hy)))
  | succ m ih => exact (addT_ok (addT_ok (Φ27_ok L N) (f28.ok L N m ih)) (f54.ok L N m ih))
def Φ28 (L N : Nat) : Tells := (addT (addT (Φ27 L N) 28 (f28.ent L N N)) 54 (f54.ent L N N))
theorem Φ28_ok (L N : Nat) : TellsOk Try.prog (Φ28 L N) := Φ28s_ok L N N
def f6.b' {R : Type} (L N : Nat) (k : Bool → Option R) (x0 : Tree) : Option R :=
  (f24 L N N (Tree.mk x0.op x0.n x0.parts) (1048576 : Int)).bind fun y0 =>
  bif (decide (y0 < (0 : Int))) then
    k true
  else (f26 L N N (Tree.mk x0.op x0.n x0.parts)).bind fun y1 =>
  (f25 L N y1).bind fun y2 =>
  (f26 L N N (Tree.mk x0.op x0.n x0.parts)).bind fun y3 =>
  (f27 L N (Tree.mk y3.op y3.n y3.parts)).bind fun y4 =>
  bif (!(y4 == y2)) then
    k false
  else (f26 L N N (Tree.mk x0.op x0.n x0.parts)).bind fun y5 =>
  (f28 L N N (Tree.mk y3.op y3.n y3.parts) y5).bind fun y6 =>
  bif (!y6) then
    k false
  else k true
def f6.b {R : Type} (L N : Nat) (k : Bool → Option R) (x0 : Tree) : Option R :=
  f6.b' L N k x0
def f6 (L N : Nat) (x0 : Tree) : Option (Bool) := f6.b L N some x0
def f6.ent (L N : Nat) (args : List AV) (vw : View) (site : Nat) : Ans := match roD [(.st 1)] vw args with
  | some d => ⟨Bool, f6 L N d.1, fun y => ((.tv .bool y), [], [])⟩
  | none => Ans.no
noncomputable def E6 (L N : Nat) : Env := { P := Try.prog, ty := tyOf, Φ := (Φ28 L N), inl := fun _ => false, live := lives, liveX := livesX, L := L }
theorem f6.b_pre {R : Type} (L N : Nat) (κ : AV → Option R) (x0 : Tree) :
    evBody (E6 L N) (evCallI (E6 L N) 0 1000) 1000 6 Try.f6 [(.tv (.st 1) x0)] [] [] (finC (.one .bool) κ)
    = f6.b' L N (fun a0 => κ (.tv .bool a0)) x0 := by kernel_rfl
theorem f6.b_eq {R : Type} (L N : Nat) (κ : AV → Option R) (x0 : Tree) :
    evBody (E6 L N) (evCallI (E6 L N) 0 1000) 1000 6 Try.f6 [(.tv (.st 1) x0)] [] [] (finC (.one .bool) κ)
    = f6.b L N (fun a0 => κ (.tv .bool a0)) x0 := by
  rw [f6.b_pre]
  unfold f6.b
  rfl
theorem f6.b'_nat {R R' : Type} (j : R → Option R') (L N : Nat) (k : Bool → Option R) (x0 : Tree) :
    f6.b' L N (fun a0 => (k a0).bind j) x0 = (f6.b' L N k x0).bind j := by
  unfold f6.b'
  repeat' (first | (with_reducible refine cond_nat ?_ ?_) | (with_reducible refine bind_nat fun _ => ?_) | rfl)
theorem f6.b_nat {R R' : Type} (j : R → Option R') (L N : Nat) (k : Bool → Option R) (x0 : Tree) :
    f6.b L N (fun a0 => (k a0).bind j) x0 = (f6.b L N k x0).bind j := by
  unfold f6.b
  exact f6.b'_nat ..
theorem f6.ok (L N : Nat) (hΦ : TellsOk Try.prog ((Φ28 L N))) : EntOk Try.prog 6 (f6.ent L N) := by
  intro args vw site h
  unfold f6.ent
  split
  · rename_i d ha
    intro y hy hs
    refine call_ro (dep := 1000) (E := (E6 L N)) (rs := (.one .bool)) (v := (.tv .bool y)) (sound_of hΦ) okP (callI_sound (sound_of hΦ) okP 0 1000) (f := Try.f6) rfl hs ha ?_ rfl site
    refine (f6.b_eq L N some d.1).trans ?_
    refine ((f6.b_nat (fun y => (some (.tv .bool y) : Option AV)) L N some d.1)).trans ?_
    rw [show f6.b L N some d.1 = some y from hy]
    rfl
  · intro y hy
    cases hy
def Φ6 (L N : Nat) : Tells := (addT (Φ28 L N) 6 (f6.ent L N))
theorem Φ6_ok (L N : Nat) : TellsOk Try.prog (Φ6 L N) := addT_ok (Φ28_ok L N) (f6.ok L N (Φ28_ok L N))
def f44.b' {R : Type} (L N : Nat) (k : (List Int) → Int → Option R) (x0 : (List Int)) : Option R :=
  bif (decide ((x0.length : Int) > (2000 : Int))) then
    bif (slB (0 : Int) (2000 : Int) x0.length) then
      k (slX x0 (0 : Int) (2000 : Int)) (0 : Int)
    else none
  else k x0 (0 : Int)
def f44.b {R : Type} (L N : Nat) (k : (List Int) → Int → Option R) (x0 : (List Int)) : Option R :=
  f44.b' L N k x0
def f44 (L N : Nat) (x0 : (List Int)) : Option ((List Int) × Int) := f44.b L N (fun a0 a1 => some (a0, a1)) x0
def f44.ent (L N : Nat) (args : List AV) (vw : View) (site : Nat) : Ans := match coeD [(.sl (.int .u8))] vw args with
  | some (d, u) => ⟨(List Int) × Int, f44 L N d.1, fun y => (.ptr site 0, u ++ [(site, some (.box [(.tv (.sl (.int .u8)) y.1), (.tv i64 y.2)]))], [])⟩
  | none => Ans.no
noncomputable def E44 (L N : Nat) : Env := { P := Try.prog, ty := tyOf, Φ := (Φ6 L N), inl := fun _ => false, live := lives, liveX := livesX, L := L }
theorem f44.b_pre {R : Type} (L N : Nat) (κ : Dens [(.sl (.int .u8)), i64] → Option R) (x0 : (List Int)) :
    evBody (E44 L N) (evCallI (E44 L N) 0 1000) 1000 44 Try.f44 [(.tv (.sl (.int .u8)) x0)] [] [] (finB [(.sl (.int .u8)), i64] κ)
    = f44.b' L N (fun a0 a1 => κ (a0, a1, ())) x0 := by kernel_rfl
theorem f44.b_eq {R : Type} (L N : Nat) (κ : Dens [(.sl (.int .u8)), i64] → Option R) (x0 : (List Int)) :
    evBody (E44 L N) (evCallI (E44 L N) 0 1000) 1000 44 Try.f44 [(.tv (.sl (.int .u8)) x0)] [] [] (finB [(.sl (.int .u8)), i64] κ)
    = f44.b L N (fun a0 a1 => κ (a0, a1, ())) x0 := by
  rw [f44.b_pre]
  unfold f44.b
  rfl
theorem f44.b'_nat {R R' : Type} (j : R → Option R') (L N : Nat) (k : (List Int) → Int → Option R) (x0 : (List Int)) :
    f44.b' L N (fun a0 a1 => (k a0 a1).bind j) x0 = (f44.b' L N k x0).bind j := by
  unfold f44.b'
  repeat' (first | (with_reducible refine cond_nat ?_ ?_) | (with_reducible refine bind_nat fun _ => ?_) | rfl)
theorem f44.b_nat {R R' : Type} (j : R → Option R') (L N : Nat) (k : (List Int) → Int → Option R) (x0 : (List Int)) :
    f44.b L N (fun a0 a1 => (k a0 a1).bind j) x0 = (f44.b L N k x0).bind j := by
  unfold f44.b
  exact f44.b'_nat ..
theorem f44.ok (L N : Nat) (hΦ : TellsOk Try.prog ((Φ6 L N))) : EntOk Try.prog 44 (f44.ent L N) := by
  intro args vw site h
  unfold f44.ent
  split
  · rename_i d u ha
    intro y hy hs
    refine call_newbox (dep := 1000) (E := (E44 L N)) (ts := [(.sl (.int .u8))]) (tb := [(.sl (.int .u8)), i64]) (d1 := (y.1, y.2, ())) (sound_of hΦ) okP (callI_sound (sound_of hΦ) okP 0 1000) (f := Try.f44) rfl hs ha ?_ site
    refine (f44.b_eq L N some d.1).trans ?_
    refine ((f44.b_nat (fun y => (some (y.1, y.2, ()) : Option (Dens [(.sl (.int .u8)), i64]))) L N (fun a0 a1 => some (a0, a1)) d.1)).trans ?_
    rw [show f44.b L N (fun a0 a1 => some (a0, a1)) d.1 = some y from hy]
    rfl
  · intro y hy
    cases hy
def Φ44 (L N : Nat) : Tells := (addT (Φ6 L N) 44 (f44.ent L N))
theorem Φ44_ok (L N : Nat) : TellsOk Try.prog (Φ44 L N) := addT_ok (Φ6_ok L N) (f44.ok L N (Φ6_ok L N))
def f56.j0' {R : Type} (L N : Nat) (k : Int → (List Int) → Int → Option R) (v4 : Int) (v5 : (List Int)) (v6 : Int) : Option R :=
  bif (decide ((wi (v6 - (1 : Int))) < (v5.length : Int))) then
    bif (decide (0 ≤ (wi (v6 - (1 : Int)))) && decide ((wi (v6 - (1 : Int))) < (v5.length : Int))) then
      bif (decide (v4 = 0)) then
        none
      else k (Int.tmod (wi ((listAt v5 (0 : Int) (wi (v6 - (1 : Int))).toNat))) v4) v5 v6
    else none
  else bif (decide ((v5.length : Int) = 0)) then
    none
  else bif (decide (0 ≤ (Int.tmod (wi (v6 - (1 : Int))) (v5.length : Int))) && decide ((Int.tmod (wi (v6 - (1 : Int))) (v5.length : Int)) < (v5.length : Int))) then
    bif (decide ((v5.length : Int) = 0)) then
      none
    else bif (decide (0 ≤ (Int.tmod (wi ((wi ((wi (v6 - (1 : Int))) * (7 : Int))) + (3 : Int))) (v5.length : Int))) && decide ((Int.tmod (wi ((wi ((wi (v6 - (1 : Int))) * (7 : Int))) + (3 : Int))) (v5.length : Int)) < (v5.length : Int))) then
      bif (decide ((v5.length : Int) = 0)) then
        none
      else bif (decide ((64 : Int) = 0)) then
        none
      else bif (decide (v4 = 0)) then
        none
      else k (Int.tmod (IntKind.wrap .i64 ((BitVec.ofInt (IntKind.bits .i64) (wi ((wi ((wi ((wi ((wi ((listAt v5 (0 : Int) (Int.tmod (wi (v6 - (1 : Int))) (v5.length : Int)).toNat))) * (131 : Int))) + (wi ((wi ((listAt v5 (0 : Int) (Int.tmod (wi ((wi ((wi (v6 - (1 : Int))) * (7 : Int))) + (3 : Int))) (v5.length : Int)).toNat))) * (1117 : Int))))) + (wi ((wi (v6 - (1 : Int))) * (29 : Int))))) + (wi ((wi (Int.tdiv (wi (v6 - (1 : Int))) (v5.length : Int))) * (53 : Int))))) ^^^ BitVec.ofInt (IntKind.bits .i64) (wi (Int.tdiv (wi ((wi ((wi ((wi ((wi ((listAt v5 (0 : Int) (Int.tmod (wi (v6 - (1 : Int))) (v5.length : Int)).toNat))) * (131 : Int))) + (wi ((wi ((listAt v5 (0 : Int) (Int.tmod (wi ((wi ((wi (v6 - (1 : Int))) * (7 : Int))) + (3 : Int))) (v5.length : Int)).toNat))) * (1117 : Int))))) + (wi ((wi (v6 - (1 : Int))) * (29 : Int))))) + (wi ((wi (Int.tdiv (wi (v6 - (1 : Int))) (v5.length : Int))) * (53 : Int))))) (64 : Int)))).toNat)) v4) v5 v6
    else none
  else none
def f56.b' {R : Type} (L N : Nat) (k : Int → (List Int) → Int → Option R) (c0 : (List Int)) (c1 : Int) (x0 : Int) : Option R :=
  bif (decide (x0 < (1 : Int))) then
    k (0 : Int) c0 (wi (c1 + (1 : Int)))
  else bif ((c0.length : Int) == (0 : Int)) then
    k (0 : Int) c0 (wi (c1 + (1 : Int)))
  else f56.j0' L N k x0 c0 (wi (c1 + (1 : Int)))
def f56.b {R : Type} (L N : Nat) (k : Int → (List Int) → Int → Option R) (c0 : (List Int)) (c1 : Int) (x0 : Int) : Option R :=
  f56.b' L N k c0 c1 x0
def f56 (L N : Nat) (c0 : (List Int)) (c1 : Int) (x0 : Int) : Option (Int × (List Int) × Int) := f56.b L N (fun a0 a1 a2 => some (a0, a1, a2)) c0 c1 x0
def f56.ent (L N : Nat) (args : List AV) (vw : View) (site : Nat) : Ans := match boxD [(.sl (.int .u8)), i64] [i64] vw args with
  | some (o, d0, d, u) => ⟨Int × (List Int) × Int, f56 L N d0.1 d0.2.1 d.1, fun y => ((.tv i64 y.1), u ++ [(o, some (.box [(.tv (.sl (.int .u8)) y.2.1), (.tv i64 y.2.2)]))], [])⟩
  | none => Ans.no
noncomputable def E56 (L N : Nat) : Env := { P := Try.prog, ty := tyOf, Φ := (Φ44 L N), inl := fun _ => false, live := lives, liveX := livesX, L := L }
theorem f56.b_pre {R : Type} (L N : Nat) (κ : AV → Dens [(.sl (.int .u8)), i64] → Option R) (c0 : (List Int)) (c1 : Int) (x0 : Int) :
    evBody (E56 L N) (evCallI (E56 L N) 0 1000) 1000 56 Try.f56 [(.ptr 0 0), (.tv i64 x0)] [.ptr 0 0] [(0, (.box [(.tv (.sl (.int .u8)) c0), (.tv i64 c1)]))] (finM (.one i64) [(.sl (.int .u8)), i64] κ)
    = f56.b' L N (fun a0 a1 a2 => κ (.tv i64 a0) (a1, a2, ())) c0 c1 x0 := by kernel_rfl
theorem f56.b_eq {R : Type} (L N : Nat) (κ : AV → Dens [(.sl (.int .u8)), i64] → Option R) (c0 : (List Int)) (c1 : Int) (x0 : Int) :
    evBody (E56 L N) (evCallI (E56 L N) 0 1000) 1000 56 Try.f56 [(.ptr 0 0), (.tv i64 x0)] [.ptr 0 0] [(0, (.box [(.tv (.sl (.int .u8)) c0), (.tv i64 c1)]))] (finM (.one i64) [(.sl (.int .u8)), i64] κ)
    = f56.b L N (fun a0 a1 a2 => κ (.tv i64 a0) (a1, a2, ())) c0 c1 x0 := by
  rw [f56.b_pre]
  unfold f56.b
  rfl
theorem f56.j0'_nat {R R' : Type} (j : R → Option R') (L N : Nat) (k : Int → (List Int) → Int → Option R) (v4 : Int) (v5 : (List Int)) (v6 : Int) :
    f56.j0' L N (fun a0 a1 a2 => (k a0 a1 a2).bind j) v4 v5 v6 = (f56.j0' L N k v4 v5 v6).bind j := by
  unfold f56.j0'
  repeat' (first | (with_reducible refine cond_nat ?_ ?_) | (with_reducible refine bind_nat fun _ => ?_) | rfl)
theorem f56.b'_nat {R R' : Type} (j : R → Option R') (L N : Nat) (k : Int → (List Int) → Int → Option R) (c0 : (List Int)) (c1 : Int) (x0 : Int) :
    f56.b' L N (fun a0 a1 a2 => (k a0 a1 a2).bind j) c0 c1 x0 = (f56.b' L N k c0 c1 x0).bind j := by
  unfold f56.b'
  repeat' (first | (with_reducible refine cond_nat ?_ ?_) | (with_reducible refine bind_nat fun _ => ?_) | exact f56.j0'_nat .. | rfl)
theorem f56.b_nat {R R' : Type} (j : R → Option R') (L N : Nat) (k : Int → (List Int) → Int → Option R) (c0 : (List Int)) (c1 : Int) (x0 : Int) :
    f56.b L N (fun a0 a1 a2 => (k a0 a1 a2).bind j) c0 c1 x0 = (f56.b L N k c0 c1 x0).bind j := by
  unfold f56.b
  exact f56.b'_nat ..
theorem f56.ok (L N : Nat) (hΦ : TellsOk Try.prog ((Φ44 L N))) : EntOk Try.prog 56 (f56.ent L N) := by
  intro args vw site h
  unfold f56.ent
  split
  · rename_i o d0 d u ha
    intro y hy hs
    obtain ⟨rest, cs, rfl, ho, hd0, hr, hu⟩ := boxD_some ha
    refine call_box (dep := 1000) (E := (E56 L N)) (ts := [(.sl (.int .u8)), i64]) (tr := [i64]) (rs := (.one i64)) (v' := (.tv i64 y.1)) (d1 := (y.2.1, y.2.2, ())) (sound_of hΦ) okP (callI_sound (sound_of hΦ) okP 0 1000) (f := Try.f56) rfl hs ho hd0 hr hu ?_ site
    refine (f56.b_eq L N (fun v d => some (v, d)) d0.1 d0.2.1 d.1).trans ?_
    refine ((f56.b_nat (fun y => (some ((.tv i64 y.1), (y.2.1, y.2.2, ())) : Option (AV × Dens [(.sl (.int .u8)), i64]))) L N (fun a0 a1 a2 => some (a0, a1, a2)) d0.1 d0.2.1 d.1)).trans ?_
    rw [show f56.b L N (fun a0 a1 a2 => some (a0, a1, a2)) d0.1 d0.2.1 d.1 = some y from hy]
    rfl
  · intro y hy
    cases hy
def Φ56 (L N : Nat) : Tells := (addT (Φ44 L N) 56 (f56.ent L N))
theorem Φ56_ok (L N : Nat) : TellsOk Try.prog (Φ56 L N) := addT_ok (Φ44_ok L N) (f56.ok L N (Φ44_ok L N))
def f92.b' {R : Type} (L N : Nat) (k : Int → (List Int) → Int → Option R) (c0 : (List Int)) (c1 : Int) : Option R :=
  (f56 L N c0 c1 (3 : Int)).bind fun y0 =>
  bif (decide (y0.1 > (0 : Int))) then
    (f56 L N y0.2.1 y0.2.2 (5 : Int)).bind fun y1 =>
    k (wi (y1.1 - (2 : Int))) y1.2.1 y1.2.2
  else (f56 L N y0.2.1 y0.2.2 (9 : Int)).bind fun y2 =>
  k (wi (y2.1 - (4 : Int))) y2.2.1 y2.2.2
def f92.b {R : Type} (L N : Nat) (k : Int → (List Int) → Int → Option R) (c0 : (List Int)) (c1 : Int) : Option R :=
  f92.b' L N k c0 c1
def f92 (L N : Nat) (c0 : (List Int)) (c1 : Int) : Option (Int × (List Int) × Int) := f92.b L N (fun a0 a1 a2 => some (a0, a1, a2)) c0 c1
def f92.ent (L N : Nat) (args : List AV) (vw : View) (site : Nat) : Ans := match boxD [(.sl (.int .u8)), i64] [] vw args with
  | some (o, d0, d, u) => ⟨Int × (List Int) × Int, f92 L N d0.1 d0.2.1, fun y => ((.tv i64 y.1), u ++ [(o, some (.box [(.tv (.sl (.int .u8)) y.2.1), (.tv i64 y.2.2)]))], [])⟩
  | none => Ans.no
noncomputable def E92 (L N : Nat) : Env := { P := Try.prog, ty := tyOf, Φ := (Φ56 L N), inl := fun _ => false, live := lives, liveX := livesX, L := L }
theorem f92.b_pre {R : Type} (L N : Nat) (κ : AV → Dens [(.sl (.int .u8)), i64] → Option R) (c0 : (List Int)) (c1 : Int) :
    evBody (E92 L N) (evCallI (E92 L N) 0 1000) 1000 92 Try.f92 [(.ptr 0 0)] [.ptr 0 0] [(0, (.box [(.tv (.sl (.int .u8)) c0), (.tv i64 c1)]))] (finM (.one i64) [(.sl (.int .u8)), i64] κ)
    = f92.b' L N (fun a0 a1 a2 => κ (.tv i64 a0) (a1, a2, ())) c0 c1 := by kernel_rfl
theorem f92.b_eq {R : Type} (L N : Nat) (κ : AV → Dens [(.sl (.int .u8)), i64] → Option R) (c0 : (List Int)) (c1 : Int) :
    evBody (E92 L N) (evCallI (E92 L N) 0 1000) 1000 92 Try.f92 [(.ptr 0 0)] [.ptr 0 0] [(0, (.box [(.tv (.sl (.int .u8)) c0), (.tv i64 c1)]))] (finM (.one i64) [(.sl (.int .u8)), i64] κ)
    = f92.b L N (fun a0 a1 a2 => κ (.tv i64 a0) (a1, a2, ())) c0 c1 := by
  rw [f92.b_pre]
  unfold f92.b
  rfl
theorem f92.b'_nat {R R' : Type} (j : R → Option R') (L N : Nat) (k : Int → (List Int) → Int → Option R) (c0 : (List Int)) (c1 : Int) :
    f92.b' L N (fun a0 a1 a2 => (k a0 a1 a2).bind j) c0 c1 = (f92.b' L N k c0 c1).bind j := by
  unfold f92.b'
  repeat' (first | (with_reducible refine cond_nat ?_ ?_) | (with_reducible refine bind_nat fun _ => ?_) | rfl)
theorem f92.b_nat {R R' : Type} (j : R → Option R') (L N : Nat) (k : Int → (List Int) → Int → Option R) (c0 : (List Int)) (c1 : Int) :
    f92.b L N (fun a0 a1 a2 => (k a0 a1 a2).bind j) c0 c1 = (f92.b L N k c0 c1).bind j := by
  unfold f92.b
  exact f92.b'_nat ..
theorem f92.ok (L N : Nat) (hΦ : TellsOk Try.prog ((Φ56 L N))) : EntOk Try.prog 92 (f92.ent L N) := by
  intro args vw site h
  unfold f92.ent
  split
  · rename_i o d0 d u ha
    intro y hy hs
    obtain ⟨rest, cs, rfl, ho, hd0, hr, hu⟩ := boxD_some ha
    refine call_box (dep := 1000) (E := (E92 L N)) (ts := [(.sl (.int .u8)), i64]) (tr := []) (rs := (.one i64)) (v' := (.tv i64 y.1)) (d1 := (y.2.1, y.2.2, ())) (sound_of hΦ) okP (callI_sound (sound_of hΦ) okP 0 1000) (f := Try.f92) rfl hs ho hd0 hr hu ?_ site
    refine (f92.b_eq L N (fun v d => some (v, d)) d0.1 d0.2.1).trans ?_
    refine ((f92.b_nat (fun y => (some ((.tv i64 y.1), (y.2.1, y.2.2, ())) : Option (AV × Dens [(.sl (.int .u8)), i64]))) L N (fun a0 a1 a2 => some (a0, a1, a2)) d0.1 d0.2.1)).trans ?_
    rw [show f92.b L N (fun a0 a1 a2 => some (a0, a1, a2)) d0.1 d0.2.1 = some y from hy]
    rfl
  · intro y hy
    cases hy
def Φ92 (L N : Nat) : Tells := (addT (Φ56 L N) 92 (f92.ent L N))
theorem Φ92_ok (L N : Nat) : TellsOk Try.prog (Φ92 L N) := addT_ok (Φ56_ok L N) (f92.ok L N (Φ56_ok L N))
def f75.b' {R : Type} (L N : Nat) (k : Int → (List Int) → Int → Option R) (c0 : (List Int)) (c1 : Int) : Option R :=
  (f56 L N c0 c1 (30 : Int)).bind fun y0 =>
  bif (y0.1 == (0 : Int)) then
    (f56 L N y0.2.1 y0.2.2 (3 : Int)).bind fun y1 =>
    bif (decide (0 ≤ y1.1) && decide (y1.1 < (([(5 : Int), (-5 : Int), (4611686018427387904 : Int)] : (List Int)).length : Int))) then
      k (listAt ([(5 : Int), (-5 : Int), (4611686018427387904 : Int)] : (List Int)) (0 : Int) y1.1.toNat) y1.2.1 y1.2.2
    else none
  else (f92 L N y0.2.1 y0.2.2).bind fun y2 =>
  k y2.1 y2.2.1 y2.2.2
def f75.b {R : Type} (L N : Nat) (k : Int → (List Int) → Int → Option R) (c0 : (List Int)) (c1 : Int) : Option R :=
  f75.b' L N k c0 c1
def f75 (L N : Nat) (c0 : (List Int)) (c1 : Int) : Option (Int × (List Int) × Int) := f75.b L N (fun a0 a1 a2 => some (a0, a1, a2)) c0 c1
def f75.ent (L N : Nat) (args : List AV) (vw : View) (site : Nat) : Ans := match boxD [(.sl (.int .u8)), i64] [] vw args with
  | some (o, d0, d, u) => ⟨Int × (List Int) × Int, f75 L N d0.1 d0.2.1, fun y => ((.tv i64 y.1), u ++ [(o, some (.box [(.tv (.sl (.int .u8)) y.2.1), (.tv i64 y.2.2)]))], [])⟩
  | none => Ans.no
noncomputable def E75 (L N : Nat) : Env := { P := Try.prog, ty := tyOf, Φ := (Φ92 L N), inl := fun _ => false, live := lives, liveX := livesX, L := L }
theorem f75.b_pre {R : Type} (L N : Nat) (κ : AV → Dens [(.sl (.int .u8)), i64] → Option R) (c0 : (List Int)) (c1 : Int) :
    evBody (E75 L N) (evCallI (E75 L N) 0 1000) 1000 75 Try.f75 [(.ptr 0 0)] [.ptr 0 0] [(0, (.box [(.tv (.sl (.int .u8)) c0), (.tv i64 c1)]))] (finM (.one i64) [(.sl (.int .u8)), i64] κ)
    = f75.b' L N (fun a0 a1 a2 => κ (.tv i64 a0) (a1, a2, ())) c0 c1 := by kernel_rfl
theorem f75.b_eq {R : Type} (L N : Nat) (κ : AV → Dens [(.sl (.int .u8)), i64] → Option R) (c0 : (List Int)) (c1 : Int) :
    evBody (E75 L N) (evCallI (E75 L N) 0 1000) 1000 75 Try.f75 [(.ptr 0 0)] [.ptr 0 0] [(0, (.box [(.tv (.sl (.int .u8)) c0), (.tv i64 c1)]))] (finM (.one i64) [(.sl (.int .u8)), i64] κ)
    = f75.b L N (fun a0 a1 a2 => κ (.tv i64 a0) (a1, a2, ())) c0 c1 := by
  rw [f75.b_pre]
  unfold f75.b
  rfl
theorem f75.b'_nat {R R' : Type} (j : R → Option R') (L N : Nat) (k : Int → (List Int) → Int → Option R) (c0 : (List Int)) (c1 : Int) :
    f75.b' L N (fun a0 a1 a2 => (k a0 a1 a2).bind j) c0 c1 = (f75.b' L N k c0 c1).bind j := by
  unfold f75.b'
  repeat' (first | (with_reducible refine cond_nat ?_ ?_) | (with_reducible refine bind_nat fun _ => ?_) | rfl)
theorem f75.b_nat {R R' : Type} (j : R → Option R') (L N : Nat) (k : Int → (List Int) → Int → Option R) (c0 : (List Int)) (c1 : Int) :
    f75.b L N (fun a0 a1 a2 => (k a0 a1 a2).bind j) c0 c1 = (f75.b L N k c0 c1).bind j := by
  unfold f75.b
  exact f75.b'_nat ..
theorem f75.ok (L N : Nat) (hΦ : TellsOk Try.prog ((Φ92 L N))) : EntOk Try.prog 75 (f75.ent L N) := by
  intro args vw site h
  unfold f75.ent
  split
  · rename_i o d0 d u ha
    intro y hy hs
    obtain ⟨rest, cs, rfl, ho, hd0, hr, hu⟩ := boxD_some ha
    refine call_box (dep := 1000) (E := (E75 L N)) (ts := [(.sl (.int .u8)), i64]) (tr := []) (rs := (.one i64)) (v' := (.tv i64 y.1)) (d1 := (y.2.1, y.2.2, ())) (sound_of hΦ) okP (callI_sound (sound_of hΦ) okP 0 1000) (f := Try.f75) rfl hs ho hd0 hr hu ?_ site
    refine (f75.b_eq L N (fun v d => some (v, d)) d0.1 d0.2.1).trans ?_
    refine ((f75.b_nat (fun y => (some ((.tv i64 y.1), (y.2.1, y.2.2, ())) : Option (AV × Dens [(.sl (.int .u8)), i64]))) L N (fun a0 a1 a2 => some (a0, a1, a2)) d0.1 d0.2.1)).trans ?_
    rw [show f75.b L N (fun a0 a1 a2 => some (a0, a1, a2)) d0.1 d0.2.1 = some y from hy]
    rfl
  · intro y hy
    cases hy
def Φ75 (L N : Nat) : Tells := (addT (Φ92 L N) 75 (f75.ent L N))
theorem Φ75_ok (L N : Nat) : TellsOk Try.prog (Φ75 L N) := addT_ok (Φ92_ok L N) (f75.ok L N (Φ92_ok L N))
def f55.j0' {R : Type} (L N : Nat) (self55 : (List Int) → Int → Int → Option (Tree × (List Int) × Int)) (k : Tree → (List Int) → Int → Option R) (v1 : Int) (v2 : Int) (v3 : (List Int)) (v4 : Int) (v5 : Int) (v6 : Int) : Option R :=
  bif (v2 == (0 : Int)) then
    (f56 L N v3 v4 (40 : Int)).bind fun y7 =>
    bif (y7.1 == (0 : Int)) then
      (f56 L N y7.2.1 y7.2.2 (3 : Int)).bind fun y8 =>
      k (Tree.mk ((Tree.mk (wi ((4 : Int) + y8.1)) (0 : Int) []).op) ((Tree.mk (wi ((4 : Int) + y8.1)) (0 : Int) []).n) ((Tree.mk (wi ((4 : Int) + y8.1)) (0 : Int) []).parts)) y8.2.1 y8.2.2
    else k (Tree.mk ((Tree.mk (0 : Int) (0 : Int) []).op) ((Tree.mk (0 : Int) (0 : Int) []).n) ((Tree.mk (0 : Int) (0 : Int) []).parts)) y7.2.1 y7.2.2
  else bif (v2 == (1 : Int)) then
    (self55 v3 v4 (wi (v1 - (1 : Int)))).bind fun y9 =>
    k (Tree.mk (1 : Int) (0 : Int) ([y9.1] : (List Tree))) y9.2.1 y9.2.2
  else bif (v2 == (2 : Int)) then
    (self55 v3 v4 (wi (v1 - (1 : Int)))).bind fun y10 =>
    (self55 y10.2.1 y10.2.2 (wi (v1 - (1 : Int)))).bind fun y11 =>
    k (Tree.mk (2 : Int) (0 : Int) ([(Tree.mk y10.1.op y10.1.n y10.1.parts), y11.1] : (List Tree))) y11.2.1 y11.2.2
  else (f75 L N v3 v4).bind fun y12 =>
  (self55 y12.2.1 y12.2.2 (wi (v1 - (1 : Int)))).bind fun y13 =>
  k (Tree.mk (3 : Int) y12.1 ([y13.1] : (List Tree))) y13.2.1 y13.2.2
def f55.b' {R : Type} (L N : Nat) (self55 : (List Int) → Int → Int → Option (Tree × (List Int) × Int)) (k : Tree → (List Int) → Int → Option R) (c0 : (List Int)) (c1 : Int) (x0 : Int) : Option R :=
  (f56 L N c0 c1 (6 : Int)).bind fun y0 =>
  bif (x0 == (0 : Int)) then
    f55.j0' L N self55 k x0 (0 : Int) y0.2.1 y0.2.2 (0 : Int) (0 : Int)
  else f55.j0' L N self55 k x0 y0.1 y0.2.1 y0.2.2 (0 : Int) (0 : Int)
def f55.b {R : Type} (L N : Nat) (self55 : (List Int) → Int → Int → Option (Tree × (List Int) × Int)) (k : Tree → (List Int) → Int → Option R) (c0 : (List Int)) (c1 : Int) (x0 : Int) : Option R :=
  f55.b' L N self55 k c0 c1 x0
def f55 (L N : Nat) : Nat → (List Int) → Int → Int → Option (Tree × (List Int) × Int)
  | 0, _, _, _ => none
  | n + 1, c0, c1, x0 => f55.b L N (f55 L N n) (fun a0 a1 a2 => some (a0, a1, a2)) c0 c1 x0
def f55.ent (L N m : Nat) (args : List AV) (vw : View) (site : Nat) : Ans := match boxD [(.sl (.int .u8)), i64] [i64] vw args with
  | some (o, d0, d, u) => ⟨Tree × (List Int) × Int, f55 L N m d0.1 d0.2.1 d.1, fun y => ((.tv (.st 1) y.1), u ++ [(o, some (.box [(.tv (.sl (.int .u8)) y.2.1), (.tv i64 y.2.2)]))], [])⟩
  | none => Ans.no
def Φ55s (L N m : Nat) : Tells := (addT (Φ75 L N) 55 (f55.ent L N m))
noncomputable def E55 (L N m : Nat) : Env := { P := Try.prog, ty := tyOf, Φ := Φ55s L N m, inl := fun _ => false, live := lives, liveX := livesX, L := L }
theorem f55.b_pre {R : Type} (L N m : Nat) (κ : AV → Dens [(.sl (.int .u8)), i64] → Option R) (c0 : (List Int)) (c1 : Int) (x0 : Int) :
    evBody (E55 L N m) (evCallI (E55 L N m) 0 1000) 1000 55 Try.f55 [(.ptr 0 0), (.tv i64 x0)] [.ptr 0 0] [(0, (.box [(.tv (.sl (.int .u8)) c0), (.tv i64 c1)]))] (finM (.one (.st 1)) [(.sl (.int .u8)), i64] κ)
    = f55.b' L N (f55 L N m) (fun a0 a1 a2 => κ (.tv (.st 1) a0) (a1, a2, ())) c0 c1 x0 := by kernel_rfl
theorem f55.b_eq {R : Type} (L N m : Nat) (κ : AV → Dens [(.sl (.int .u8)), i64] → Option R) (c0 : (List Int)) (c1 : Int) (x0 : Int) :
    evBody (E55 L N m) (evCallI (E55 L N m) 0 1000) 1000 55 Try.f55 [(.ptr 0 0), (.tv i64 x0)] [.ptr 0 0] [(0, (.box [(.tv (.sl (.int .u8)) c0), (.tv i64 c1)]))] (finM (.one (.st 1)) [(.sl (.int .u8)), i64] κ)
    = f55.b L N (f55 L N m) (fun a0 a1 a2 => κ (.tv (.st 1) a0) (a1, a2, ())) c0 c1 x0 := by
  rw [f55.b_pre]
  unfold f55.b
  rfl
theorem f55.j0'_nat {R R' : Type} (j : R → Option R') (L N : Nat) (self55 : (List Int) → Int → Int → Option (Tree × (List Int) × Int)) (k : Tree → (List Int) → Int → Option R) (v1 : Int) (v2 : Int) (v3 : (List Int)) (v4 : Int) (v5 : Int) (v6 : Int) :
    f55.j0' L N self55 (fun a0 a1 a2 => (k a0 a1 a2).bind j) v1 v2 v3 v4 v5 v6 = (f55.j0' L N self55 k v1 v2 v3 v4 v5 v6).bind j := by
  unfold f55.j0'
  repeat' (first | (with_reducible refine cond_nat ?_ ?_) | (with_reducible refine bind_nat fun _ => ?_) | rfl)
theorem f55.b'_nat {R R' : Type} (j : R → Option R') (L N : Nat) (self55 : (List Int) → Int → Int → Option (Tree × (List Int) × Int)) (k : Tree → (List Int) → Int → Option R) (c0 : (List Int)) (c1 : Int) (x0 : Int) :
    f55.b' L N self55 (fun a0 a1 a2 => (k a0 a1 a2).bind j) c0 c1 x0 = (f55.b' L N self55 k c0 c1 x0).bind j := by
  unfold f55.b'
  repeat' (first | (with_reducible refine cond_nat ?_ ?_) | (with_reducible refine bind_nat fun _ => ?_) | exact f55.j0'_nat .. | rfl)
theorem f55.b_nat {R R' : Type} (j : R → Option R') (L N : Nat) (self55 : (List Int) → Int → Int → Option (Tree × (List Int) × Int)) (k : Tree → (List Int) → Int → Option R) (c0 : (List Int)) (c1 : Int) (x0 : Int) :
    f55.b L N self55 (fun a0 a1 a2 => (k a0 a1 a2).bind j) c0 c1 x0 = (f55.b L N self55 k c0 c1 x0).bind j := by
  unfold f55.b
  exact f55.b'_nat ..
theorem f55.ok (L N m : Nat) (hΦ : TellsOk Try.prog (Φ55s L N m)) : EntOk Try.prog 55 (f55.ent L N (m + 1)) := by
  intro args vw site h
  unfold f55.ent
  split
  · rename_i o d0 d u ha
    intro y hy hs
    obtain ⟨rest, cs, rfl, ho, hd0, hr, hu⟩ := boxD_some ha
    refine call_box (dep := 1000) (E := (E55 L N m)) (ts := [(.sl (.int .u8)), i64]) (tr := [i64]) (rs := (.one (.st 1))) (v' := (.tv (.st 1) y.1)) (d1 := (y.2.1, y.2.2, ())) (sound_of hΦ) okP (callI_sound (sound_of hΦ) okP 0 1000) (f := Try.f55) rfl hs ho hd0 hr hu ?_ site
    refine (f55.b_eq L N m (fun v d => some (v, d)) d0.1 d0.2.1 d.1).trans ?_
    refine ((f55.b_nat (fun y => (some ((.tv (.st 1) y.1), (y.2.1, y.2.2, ())) : Option (AV × Dens [(.sl (.int .u8)), i64]))) L N (f55 L N m) (fun a0 a1 a2 => some (a0, a1, a2)) d0.1 d0.2.1 d.1)).trans ?_
    rw [show f55.b L N (f55 L N m) (fun a0 a1 a2 => some (a0, a1, a2)) d0.1 d0.2.1 d.1 = some y from hy]
    rfl
  · intro y hy
    cases hy
theorem Φ55s_ok (L N : Nat) : ∀ m, TellsOk Try.prog (Φ55s L N m) := by
  intro m
  induction m with
  | zero => exact (addT_ok (Φ75_ok L N) (fun args vw site h => by unfold f55.ent; split <;> (intro y hy; cases hy)))
  | succ m ih => exact (addT_ok (Φ75_ok L N) (f55.ok L N m ih))
def Φ55 (L N : Nat) : Tells := (addT (Φ75 L N) 55 (f55.ent L N N))
theorem Φ55_ok (L N : Nat) : TellsOk Try.prog (Φ55 L N) := Φ55s_ok L N N
def f29.b' {R : Type} (L N : Nat) (k : Tree → Option R) (x0 : (List Int)) : Option R :=
  (f44 L N x0).bind fun y0 =>
  (f56 L N y0.1 y0.2 (5 : Int)).bind fun y1 =>
  (f55 L N N y1.2.1 y1.2.2 y1.1).bind fun y2 =>
  k (Tree.mk ((Tree.mk y2.1.op y2.1.n y2.1.parts).op) ((Tree.mk y2.1.op y2.1.n y2.1.parts).n) ((Tree.mk y2.1.op y2.1.n y2.1.parts).parts))
def f29.b {R : Type} (L N : Nat) (k : Tree → Option R) (x0 : (List Int)) : Option R :=
  f29.b' L N k x0
def f29 (L N : Nat) (x0 : (List Int)) : Option (Tree) := f29.b L N some x0
def f29.ent (L N : Nat) (args : List AV) (vw : View) (site : Nat) : Ans := match coeD [(.sl (.int .u8))] vw args with
  | some (d, u) => ⟨Tree, f29 L N d.1, fun y => ((.tv (.st 1) y), u, [])⟩
  | none => Ans.no
noncomputable def E29 (L N : Nat) : Env := { P := Try.prog, ty := tyOf, Φ := (Φ55 L N), inl := fun _ => false, live := lives, liveX := livesX, L := L }
theorem f29.b_pre {R : Type} (L N : Nat) (κ : AV → Option R) (x0 : (List Int)) :
    evBody (E29 L N) (evCallI (E29 L N) 0 1000) 1000 29 Try.f29 [(.tv (.sl (.int .u8)) x0)] [] [] (finC (.one (.st 1)) κ)
    = f29.b' L N (fun a0 => κ (.tv (.st 1) a0)) x0 := by kernel_rfl
theorem f29.b_eq {R : Type} (L N : Nat) (κ : AV → Option R) (x0 : (List Int)) :
    evBody (E29 L N) (evCallI (E29 L N) 0 1000) 1000 29 Try.f29 [(.tv (.sl (.int .u8)) x0)] [] [] (finC (.one (.st 1)) κ)
    = f29.b L N (fun a0 => κ (.tv (.st 1) a0)) x0 := by
  rw [f29.b_pre]
  unfold f29.b
  rfl
theorem f29.b'_nat {R R' : Type} (j : R → Option R') (L N : Nat) (k : Tree → Option R) (x0 : (List Int)) :
    f29.b' L N (fun a0 => (k a0).bind j) x0 = (f29.b' L N k x0).bind j := by
  unfold f29.b'
  repeat' (first | (with_reducible refine cond_nat ?_ ?_) | (with_reducible refine bind_nat fun _ => ?_) | rfl)
theorem f29.b_nat {R R' : Type} (j : R → Option R') (L N : Nat) (k : Tree → Option R) (x0 : (List Int)) :
    f29.b L N (fun a0 => (k a0).bind j) x0 = (f29.b L N k x0).bind j := by
  unfold f29.b
  exact f29.b'_nat ..
theorem f29.ok (L N : Nat) (hΦ : TellsOk Try.prog ((Φ55 L N))) : EntOk Try.prog 29 (f29.ent L N) := by
  intro args vw site h
  unfold f29.ent
  split
  · rename_i d u ha
    intro y hy hs
    refine call_data (dep := 1000) (E := (E29 L N)) (rs := (.one (.st 1))) (v' := (.tv (.st 1) y)) (sound_of hΦ) okP (callI_sound (sound_of hΦ) okP 0 1000) (f := Try.f29) rfl hs ha ?_ site
    refine (f29.b_eq L N some d.1).trans ?_
    refine ((f29.b_nat (fun y => (some (.tv (.st 1) y) : Option AV)) L N some d.1)).trans ?_
    rw [show f29.b L N some d.1 = some y from hy]
    rfl
  · intro y hy
    cases hy
def Φ29 (L N : Nat) : Tells := (addT (Φ55 L N) 29 (f29.ent L N))
theorem Φ29_ok (L N : Nat) : TellsOk Try.prog (Φ29 L N) := addT_ok (Φ55_ok L N) (f29.ok L N (Φ55_ok L N))
def f57.s0' {R : Type} (L N : Nat) (self57 : Tree → Option (Int)) (k0_e0 : Int → Int → Int → (List Tree) → Option R) (rec0 : Int → (List Tree) → Int → Int → Int → Int → (List Tree) → Option R) (s0 : Int) (s1 : (List Tree)) (s2 : Int) (s3 : Int) (s4 : Int) (s5 : Int) (s6 : (List Tree)) : Option R :=
  bif (decide (s3 < s2)) then
    bif (decide (0 ≤ s3) && decide (s3 < (s1.length : Int))) then
      (self57 (Tree.mk ((listAt s1 (Ty.dflt (.st 1)) s3.toNat).op) ((listAt s1 (Ty.dflt (.st 1)) s3.toNat).n) ((listAt s1 (Ty.dflt (.st 1)) s3.toNat).parts))).bind fun y11 =>
      rec0 (bif decide (y11 > s0) then y11 else s0) s1 s2 (wi (s3 + (1 : Int))) s4 s5 s6
    else none
  else k0_e0 s0 s4 s5 s6
def f57.s0 {R : Type} (L N : Nat) (self57 : Tree → Option (Int)) (k0_e0 : Int → Int → Int → (List Tree) → Option R) (rec0 : Int → (List Tree) → Int → Int → Int → Int → (List Tree) → Option R) (s0 : Int) (s1 : (List Tree)) (s2 : Int) (s3 : Int) (s4 : Int) (s5 : Int) (s6 : (List Tree)) : Option R :=
  f57.s0' L N self57 k0_e0 rec0 s0 s1 s2 s3 s4 s5 s6
def f57.l0 {R : Type} (L N : Nat) (self57 : Tree → Option (Int)) (k0_e0 : Int → Int → Int → (List Tree) → Option R) : Nat → Int → (List Tree) → Int → Int → Int → Int → (List Tree) → Option R
  | 0, _, _, _, _, _, _, _ => none
  | n + 1, s0, s1, s2, s3, s4, s5, s6 => f57.s0 L N self57 k0_e0 (f57.l0 L N self57 k0_e0 n) s0 s1 s2 s3 s4 s5 s6
def f57.T0 (s0 : Int) (s1 : (List Tree)) (s2 : Int) (s3 : Int) (s4 : Int) (s5 : Int) (s6 : (List Tree)) : T := mkT 24 [(1, (.ptr 1001 0)), (3, (.tv i64 s0)), (7, (.tv (.sl (.st 1)) s1)), (8, (.tv i64 s2)), (9, (.tv i64 s3))]
def f57.H0 (s0 : Int) (s1 : (List Tree)) (s2 : Int) (s3 : Int) (s4 : Int) (s5 : Int) (s6 : (List Tree)) : H := [(1001, (.box [(.tv i64 s4), (.tv i64 s5), (.tv (.sl (.st 1)) s6)]))]
def f57.T0_e0 (z7 : Int) (z8 : Int) (z9 : Int) (z10 : (List Tree)) : T := mkT 24 [(1, (.ptr 1001 0)), (3, (.tv i64 z7))]
def f57.H0_e0 (z7 : Int) (z8 : Int) (z9 : Int) (z10 : (List Tree)) : H := [(1001, (.box [(.tv i64 z8), (.tv i64 z9), (.tv (.sl (.st 1)) z10)]))]
def f57.p0_e0' {R : Type} (L N : Nat) (self57 : Tree → Option (Int)) (k : Int → Option R) (z7 : Int) (z8 : Int) (z9 : Int) (z10 : (List Tree)) : Option R :=
  bif (z8 == (3 : Int)) then
    k (wi (z7 + (1 : Int)))
  else k z7
def f57.p0_e0 {R : Type} (L N : Nat) (self57 : Tree → Option (Int)) (k : Int → Option R) (z7 : Int) (z8 : Int) (z9 : Int) (z10 : (List Tree)) : Option R :=
  f57.p0_e0' L N self57 k z7 z8 z9 z10
def f57.b' {R : Type} (L N : Nat) (self57 : Tree → Option (Int)) (k : Int → Option R) (w0 : Int → (List Tree) → Int → Int → Int → Int → (List Tree) → Option R) (x0 : Tree) : Option R :=
  w0 (0 : Int) x0.parts (x0.parts.length : Int) (0 : Int) x0.op x0.n x0.parts
def f57.b {R : Type} (L N : Nat) (self57 : Tree → Option (Int)) (k : Int → Option R) (x0 : Tree) : Option R :=
  f57.b' L N self57 k (fun s0 s1 s2 s3 s4 s5 s6 => f57.l0 L N self57 (fun z7 z8 z9 z10 => f57.p0_e0 L N self57 k z7 z8 z9 z10) L s0 s1 s2 s3 s4 s5 s6) x0
def f57 (L N : Nat) : Nat → Tree → Option (Int)
  | 0, _ => none
  | n + 1, x0 => f57.b L N (f57 L N n) some x0
def f57.ent (L N m : Nat) (args : List AV) (vw : View) (site : Nat) : Ans := match roD [(.st 1)] vw args with
  | some d => ⟨Int, f57 L N m d.1, fun y => ((.tv i64 y), [], [])⟩
  | none => Ans.no
def Φ57s (L N m : Nat) : Tells := (addT (Φ29 L N) 57 (f57.ent L N m))
noncomputable def E57 (L N m : Nat) : Env := { P := Try.prog, ty := tyOf, Φ := Φ57s L N m, inl := fun _ => false, live := lives, liveX := livesX, L := L }
noncomputable def f57.c0 : Code := loopAt 0 (codeOf Try.f57)
theorem f57.s0_pre {R : Type} (L N m : Nat) (κ : Ex → T → H → Option R) (rec : T → H → Option R) (s0 : Int) (s1 : (List Tree)) (s2 : Int) (s3 : Int) (s4 : Int) (s5 : Int) (s6 : (List Tree)) :
    evRd (E57 L N m) (evCallI (E57 L N m) 0 1000) 1000 57 24 0 f57.c0 κ rec (f57.T0 s0 s1 s2 s3 s4 s5 s6) (f57.H0 s0 s1 s2 s3 s4 s5 s6)
    = f57.s0' L N (f57 L N m) (fun z7 z8 z9 z10 => κ (.exit 0) (f57.T0_e0 z7 z8 z9 z10) (f57.H0_e0 z7 z8 z9 z10)) (fun s0 s1 s2 s3 s4 s5 s6 => rec (f57.T0 s0 s1 s2 s3 s4 s5 s6) (f57.H0 s0 s1 s2 s3 s4 s5 s6)) s0 s1 s2 s3 s4 s5 s6 := by kernel_rfl
theorem f57.s0_eq {R : Type} (L N m : Nat) (κ : Ex → T → H → Option R) (rec : T → H → Option R) (s0 : Int) (s1 : (List Tree)) (s2 : Int) (s3 : Int) (s4 : Int) (s5 : Int) (s6 : (List Tree)) :
    evRd (E57 L N m) (evCallI (E57 L N m) 0 1000) 1000 57 24 0 f57.c0 κ rec (f57.T0 s0 s1 s2 s3 s4 s5 s6) (f57.H0 s0 s1 s2 s3 s4 s5 s6)
    = f57.s0 L N (f57 L N m) (fun z7 z8 z9 z10 => κ (.exit 0) (f57.T0_e0 z7 z8 z9 z10) (f57.H0_e0 z7 z8 z9 z10)) (fun s0 s1 s2 s3 s4 s5 s6 => rec (f57.T0 s0 s1 s2 s3 s4 s5 s6) (f57.H0 s0 s1 s2 s3 s4 s5 s6)) s0 s1 s2 s3 s4 s5 s6 := by
  rw [f57.s0_pre]
  unfold f57.s0
  rfl
theorem f57.l0_eq {R : Type} (L N m : Nat) (κ : Ex → T → H → Option R) : ∀ (n : Nat) (s0 : Int) (s1 : (List Tree)) (s2 : Int) (s3 : Int) (s4 : Int) (s5 : Int) (s6 : (List Tree)),
    evLp (E57 L N m) (evCallI (E57 L N m) 0 1000) 1000 57 24 0 f57.c0 κ n (f57.T0 s0 s1 s2 s3 s4 s5 s6) (f57.H0 s0 s1 s2 s3 s4 s5 s6)
    = f57.l0 L N (f57 L N m) (fun z7 z8 z9 z10 => κ (.exit 0) (f57.T0_e0 z7 z8 z9 z10) (f57.H0_e0 z7 z8 z9 z10)) n s0 s1 s2 s3 s4 s5 s6 := by
  intro n
  induction n with
  | zero => intros; rfl
  | succ n ih =>
    intro s0 s1 s2 s3 s4 s5 s6
    rw [evLp_succ, f57.s0_eq]
    simp only [ih]
    rfl
theorem f57.p0_e0_pre {R : Type} (L N m : Nat) (κ : AV → Option R) (z7 : Int) (z8 : Int) (z9 : Int) (z10 : (List Tree)) :
    (contAt (E57 L N m) (evCallI (E57 L N m) 0 1000) 1000 57 24 0 (codeOf Try.f57) (finK (E57 L N m) 1000 Try.f57 (finC (.one i64) κ))) (.exit 0) (f57.T0_e0 z7 z8 z9 z10) (f57.H0_e0 z7 z8 z9 z10)
    = f57.p0_e0' L N (f57 L N m) (fun a0 => κ (.tv i64 a0)) z7 z8 z9 z10 := by kernel_rfl
theorem f57.p0_e0_eq {R : Type} (L N m : Nat) (κ : AV → Option R) (z7 : Int) (z8 : Int) (z9 : Int) (z10 : (List Tree)) :
    (contAt (E57 L N m) (evCallI (E57 L N m) 0 1000) 1000 57 24 0 (codeOf Try.f57) (finK (E57 L N m) 1000 Try.f57 (finC (.one i64) κ))) (.exit 0) (f57.T0_e0 z7 z8 z9 z10) (f57.H0_e0 z7 z8 z9 z10)
    = f57.p0_e0 L N (f57 L N m) (fun a0 => κ (.tv i64 a0)) z7 z8 z9 z10 := by
  rw [f57.p0_e0_pre]
  unfold f57.p0_e0
  rfl
theorem f57.b_pre {R : Type} (L N m : Nat) (κ : AV → Option R) (x0 : Tree) :
    evBody (E57 L N m) (evCallI (E57 L N m) 0 1000) 1000 57 Try.f57 [(.tv (.st 1) x0)] [] [] (finC (.one i64) κ)
    = f57.b' L N (f57 L N m) (fun a0 => κ (.tv i64 a0)) (fun s0 s1 s2 s3 s4 s5 s6 => evLp (E57 L N m) (evCallI (E57 L N m) 0 1000) 1000 57 24 0 f57.c0 (contAt (E57 L N m) (evCallI (E57 L N m) 0 1000) 1000 57 24 0 (codeOf Try.f57) (finK (E57 L N m) 1000 Try.f57 (finC (.one i64) κ))) L (f57.T0 s0 s1 s2 s3 s4 s5 s6) (f57.H0 s0 s1 s2 s3 s4 s5 s6)) x0 := by kernel_rfl
theorem f57.b_eq {R : Type} (L N m : Nat) (κ : AV → Option R) (x0 : Tree) :
    evBody (E57 L N m) (evCallI (E57 L N m) 0 1000) 1000 57 Try.f57 [(.tv (.st 1) x0)] [] [] (finC (.one i64) κ)
    = f57.b L N (f57 L N m) (fun a0 => κ (.tv i64 a0)) x0 := by
  rw [f57.b_pre]
  unfold f57.b
  simp only [f57.l0_eq, f57.p0_e0_eq]
theorem f57.s0'_nat {R R' : Type} (j : R → Option R') (L N : Nat) (self57 : Tree → Option (Int)) (k0_e0 : Int → Int → Int → (List Tree) → Option R) (rec0 : Int → (List Tree) → Int → Int → Int → Int → (List Tree) → Option R) (s0 : Int) (s1 : (List Tree)) (s2 : Int) (s3 : Int) (s4 : Int) (s5 : Int) (s6 : (List Tree)) :
    f57.s0' L N self57 (fun a0 a1 a2 a3 => (k0_e0 a0 a1 a2 a3).bind j) (fun a0 a1 a2 a3 a4 a5 a6 => (rec0 a0 a1 a2 a3 a4 a5 a6).bind j) s0 s1 s2 s3 s4 s5 s6 = (f57.s0' L N self57 k0_e0 rec0 s0 s1 s2 s3 s4 s5 s6).bind j := by
  unfold f57.s0'
  repeat' (first | (with_reducible refine cond_nat ?_ ?_) | (with_reducible refine bind_nat fun _ => ?_) | rfl)
theorem f57.s0_nat {R R' : Type} (j : R → Option R') (L N : Nat) (self57 : Tree → Option (Int)) (k0_e0 : Int → Int → Int → (List Tree) → Option R) (rec0 : Int → (List Tree) → Int → Int → Int → Int → (List Tree) → Option R) (s0 : Int) (s1 : (List Tree)) (s2 : Int) (s3 : Int) (s4 : Int) (s5 : Int) (s6 : (List Tree)) :
    f57.s0 L N self57 (fun a0 a1 a2 a3 => (k0_e0 a0 a1 a2 a3).bind j) (fun a0 a1 a2 a3 a4 a5 a6 => (rec0 a0 a1 a2 a3 a4 a5 a6).bind j) s0 s1 s2 s3 s4 s5 s6 = (f57.s0 L N self57 k0_e0 rec0 s0 s1 s2 s3 s4 s5 s6).bind j := by
  unfold f57.s0
  exact f57.s0'_nat ..
theorem f57.l0_nat {R R' : Type} (j : R → Option R') (L N : Nat) (self57 : Tree → Option (Int)) (k0_e0 : Int → Int → Int → (List Tree) → Option R) : ∀ (n : Nat) (s0 : Int) (s1 : (List Tree)) (s2 : Int) (s3 : Int) (s4 : Int) (s5 : Int) (s6 : (List Tree)),
    f57.l0 L N self57 (fun a0 a1 a2 a3 => (k0_e0 a0 a1 a2 a3).bind j) n s0 s1 s2 s3 s4 s5 s6 = (f57.l0 L N self57 k0_e0 n s0 s1 s2 s3 s4 s5 s6).bind j := by
  intro n
  induction n with
  | zero => intros; rfl
  | succ n ih =>
    intro s0 s1 s2 s3 s4 s5 s6
    show f57.s0 L N self57 (fun a0 a1 a2 a3 => (k0_e0 a0 a1 a2 a3).bind j) (f57.l0 L N self57 (fun a0 a1 a2 a3 => (k0_e0 a0 a1 a2 a3).bind j) n) s0 s1 s2 s3 s4 s5 s6 = _
    rw [show f57.l0 L N self57 (fun a0 a1 a2 a3 => (k0_e0 a0 a1 a2 a3).bind j) n = (fun s0 s1 s2 s3 s4 s5 s6 => (f57.l0 L N self57 k0_e0 n s0 s1 s2 s3 s4 s5 s6).bind j) from funext fun s0 => funext fun s1 => funext fun s2 => funext fun s3 => funext fun s4 => funext fun s5 => funext fun s6 => ih s0 s1 s2 s3 s4 s5 s6]
    exact f57.s0_nat ..
theorem f57.p0_e0'_nat {R R' : Type} (j : R → Option R') (L N : Nat) (self57 : Tree → Option (Int)) (k : Int → Option R) (z7 : Int) (z8 : Int) (z9 : Int) (z10 : (List Tree)) :
    f57.p0_e0' L N self57 (fun a0 => (k a0).bind j) z7 z8 z9 z10 = (f57.p0_e0' L N self57 k z7 z8 z9 z10).bind j := by
  unfold f57.p0_e0'
  repeat' (first | (with_reducible refine cond_nat ?_ ?_) | (with_reducible refine bind_nat fun _ => ?_) | rfl)
theorem f57.p0_e0_nat {R R' : Type} (j : R → Option R') (L N : Nat) (self57 : Tree → Option (Int)) (k : Int → Option R) (z7 : Int) (z8 : Int) (z9 : Int) (z10 : (List Tree)) :
    f57.p0_e0 L N self57 (fun a0 => (k a0).bind j) z7 z8 z9 z10 = (f57.p0_e0 L N self57 k z7 z8 z9 z10).bind j := by
  unfold f57.p0_e0
  exact f57.p0_e0'_nat ..
theorem f57.b'_nat {R R' : Type} (j : R → Option R') (L N : Nat) (self57 : Tree → Option (Int)) (k : Int → Option R) (w0 : Int → (List Tree) → Int → Int → Int → Int → (List Tree) → Option R) (x0 : Tree) :
    f57.b' L N self57 (fun a0 => (k a0).bind j) (fun a0 a1 a2 a3 a4 a5 a6 => (w0 a0 a1 a2 a3 a4 a5 a6).bind j) x0 = (f57.b' L N self57 k w0 x0).bind j := by
  unfold f57.b'
  repeat' (first | (with_reducible refine cond_nat ?_ ?_) | (with_reducible refine bind_nat fun _ => ?_) | rfl)
theorem f57.b_nat {R R' : Type} (j : R → Option R') (L N : Nat) (self57 : Tree → Option (Int)) (k : Int → Option R) (x0 : Tree) :
    f57.b L N self57 (fun a0 => (k a0).bind j) x0 = (f57.b L N self57 k x0).bind j := by
  unfold f57.b
  simp only [f57.l0_nat, f57.p0_e0_nat]
  exact f57.b'_nat ..
theorem f57.ok (L N m : Nat) (hΦ : TellsOk Try.prog (Φ57s L N m)) : EntOk Try.prog 57 (f57.ent L N (m + 1)) := by
  intro args vw site h
  unfold f57.ent
  split
  · rename_i d ha
    intro y hy hs
    refine call_ro (dep := 1000) (E := (E57 L N m)) (rs := (.one i64)) (v := (.tv i64 y)) (sound_of hΦ) okP (callI_sound (sound_of hΦ) okP 0 1000) (f := Try.f57) rfl hs ha ?_ rfl site
    refine (f57.b_eq L N m some d.1).trans ?_
    refine ((f57.b_nat (fun y => (some (.tv i64 y) : Option AV)) L N (f57 L N m) some d.1)).trans ?_
    rw [show f57.b L N (f57 L N m) some d.1 = some y from hy]
    rfl
  · intro y hy
    cases hy
theorem Φ57s_ok (L N : Nat) : ∀ m, TellsOk Try.prog (Φ57s L N m) := by
  intro m
  induction m with
  | zero => exact (addT_ok (Φ29_ok L N) (fun args vw site h => by unfold f57.ent; split <;> (intro y hy; cases hy)))
  | succ m ih => exact (addT_ok (Φ29_ok L N) (f57.ok L N m ih))
def Φ57 (L N : Nat) : Tells := (addT (Φ29 L N) 57 (f57.ent L N N))
theorem Φ57_ok (L N : Nat) : TellsOk Try.prog (Φ57 L N) := Φ57s_ok L N N
def f30.b' {R : Type} (L N : Nat) (k : Int → Option R) (x0 : Tree) : Option R :=
  (f27 L N (Tree.mk x0.op x0.n x0.parts)).bind fun y0 =>
  bif (!y0) then
    k (-1 : Int)
  else (f57 L N N (Tree.mk x0.op x0.n x0.parts)).bind fun y1 =>
  k y1
def f30.b {R : Type} (L N : Nat) (k : Int → Option R) (x0 : Tree) : Option R :=
  f30.b' L N k x0
def f30 (L N : Nat) (x0 : Tree) : Option (Int) := f30.b L N some x0
def f30.ent (L N : Nat) (args : List AV) (vw : View) (site : Nat) : Ans := match roD [(.st 1)] vw args with
  | some d => ⟨Int, f30 L N d.1, fun y => ((.tv i64 y), [], [])⟩
  | none => Ans.no
noncomputable def E30 (L N : Nat) : Env := { P := Try.prog, ty := tyOf, Φ := (Φ57 L N), inl := fun _ => false, live := lives, liveX := livesX, L := L }
theorem f30.b_pre {R : Type} (L N : Nat) (κ : AV → Option R) (x0 : Tree) :
    evBody (E30 L N) (evCallI (E30 L N) 0 1000) 1000 30 Try.f30 [(.tv (.st 1) x0)] [] [] (finC (.one i64) κ)
    = f30.b' L N (fun a0 => κ (.tv i64 a0)) x0 := by kernel_rfl
theorem f30.b_eq {R : Type} (L N : Nat) (κ : AV → Option R) (x0 : Tree) :
    evBody (E30 L N) (evCallI (E30 L N) 0 1000) 1000 30 Try.f30 [(.tv (.st 1) x0)] [] [] (finC (.one i64) κ)
    = f30.b L N (fun a0 => κ (.tv i64 a0)) x0 := by
  rw [f30.b_pre]
  unfold f30.b
  rfl
theorem f30.b'_nat {R R' : Type} (j : R → Option R') (L N : Nat) (k : Int → Option R) (x0 : Tree) :
    f30.b' L N (fun a0 => (k a0).bind j) x0 = (f30.b' L N k x0).bind j := by
  unfold f30.b'
  repeat' (first | (with_reducible refine cond_nat ?_ ?_) | (with_reducible refine bind_nat fun _ => ?_) | rfl)
theorem f30.b_nat {R R' : Type} (j : R → Option R') (L N : Nat) (k : Int → Option R) (x0 : Tree) :
    f30.b L N (fun a0 => (k a0).bind j) x0 = (f30.b L N k x0).bind j := by
  unfold f30.b
  exact f30.b'_nat ..
theorem f30.ok (L N : Nat) (hΦ : TellsOk Try.prog ((Φ57 L N))) : EntOk Try.prog 30 (f30.ent L N) := by
  intro args vw site h
  unfold f30.ent
  split
  · rename_i d ha
    intro y hy hs
    refine call_ro (dep := 1000) (E := (E30 L N)) (rs := (.one i64)) (v := (.tv i64 y)) (sound_of hΦ) okP (callI_sound (sound_of hΦ) okP 0 1000) (f := Try.f30) rfl hs ha ?_ rfl site
    refine (f30.b_eq L N some d.1).trans ?_
    refine ((f30.b_nat (fun y => (some (.tv i64 y) : Option AV)) L N some d.1)).trans ?_
    rw [show f30.b L N some d.1 = some y from hy]
    rfl
  · intro y hy
    cases hy
def Φ30 (L N : Nat) : Tells := (addT (Φ57 L N) 30 (f30.ent L N))
theorem Φ30_ok (L N : Nat) : TellsOk Try.prog (Φ30 L N) := addT_ok (Φ57_ok L N) (f30.ok L N (Φ57_ok L N))
def f58.s0' {R : Type} (L N : Nat) (self58 : Tree → Option (Int)) (k0_e0 : Int → Int → Int → (List Tree) → Option R) (rec0 : Int → Int → Int → Int → (List Tree) → Option R) (s0 : Int) (s1 : Int) (s2 : Int) (s3 : Int) (s4 : (List Tree)) : Option R :=
  bif (decide (s1 < (s4.length : Int))) then
    bif (decide (0 ≤ s1) && decide (s1 < (s4.length : Int))) then
      (self58 (listAt s4 (Ty.dflt (.st 1)) s1.toNat)).bind fun y9 =>
      rec0 (bif decide (y9 > s0) then y9 else s0) (wi (s1 + (1 : Int))) s2 s3 s4
    else none
  else k0_e0 s0 s2 s3 s4
def f58.s0 {R : Type} (L N : Nat) (self58 : Tree → Option (Int)) (k0_e0 : Int → Int → Int → (List Tree) → Option R) (rec0 : Int → Int → Int → Int → (List Tree) → Option R) (s0 : Int) (s1 : Int) (s2 : Int) (s3 : Int) (s4 : (List Tree)) : Option R :=
  f58.s0' L N self58 k0_e0 rec0 s0 s1 s2 s3 s4
def f58.l0 {R : Type} (L N : Nat) (self58 : Tree → Option (Int)) (k0_e0 : Int → Int → Int → (List Tree) → Option R) : Nat → Int → Int → Int → Int → (List Tree) → Option R
  | 0, _, _, _, _, _ => none
  | n + 1, s0, s1, s2, s3, s4 => f58.s0 L N self58 k0_e0 (f58.l0 L N self58 k0_e0 n) s0 s1 s2 s3 s4
def f58.T0 (s0 : Int) (s1 : Int) (s2 : Int) (s3 : Int) (s4 : (List Tree)) : T := mkT 26 [(1, (.ptr 1001 0)), (3, (.tv i64 s0)), (4, (.tv i64 s1))]
def f58.H0 (s0 : Int) (s1 : Int) (s2 : Int) (s3 : Int) (s4 : (List Tree)) : H := [(1001, (.box [(.tv i64 s2), (.tv i64 s3), (.tv (.sl (.st 1)) s4)]))]
def f58.T0_e0 (z5 : Int) (z6 : Int) (z7 : Int) (z8 : (List Tree)) : T := mkT 26 [(1, (.ptr 1001 0)), (3, (.tv i64 z5))]
def f58.H0_e0 (z5 : Int) (z6 : Int) (z7 : Int) (z8 : (List Tree)) : H := [(1001, (.box [(.tv i64 z6), (.tv i64 z7), (.tv (.sl (.st 1)) z8)]))]
def f58.p0_e0' {R : Type} (L N : Nat) (self58 : Tree → Option (Int)) (k : Int → Option R) (z5 : Int) (z6 : Int) (z7 : Int) (z8 : (List Tree)) : Option R :=
  bif (z6 == (3 : Int)) then
    k (wi (z5 + (1 : Int)))
  else k z5
def f58.p0_e0 {R : Type} (L N : Nat) (self58 : Tree → Option (Int)) (k : Int → Option R) (z5 : Int) (z6 : Int) (z7 : Int) (z8 : (List Tree)) : Option R :=
  f58.p0_e0' L N self58 k z5 z6 z7 z8
def f58.b' {R : Type} (L N : Nat) (self58 : Tree → Option (Int)) (k : Int → Option R) (w0 : Int → Int → Int → Int → (List Tree) → Option R) (x0 : Tree) : Option R :=
  w0 (0 : Int) (0 : Int) x0.op x0.n x0.parts
def f58.b {R : Type} (L N : Nat) (self58 : Tree → Option (Int)) (k : Int → Option R) (x0 : Tree) : Option R :=
  f58.b' L N self58 k (fun s0 s1 s2 s3 s4 => f58.l0 L N self58 (fun z5 z6 z7 z8 => f58.p0_e0 L N self58 k z5 z6 z7 z8) L s0 s1 s2 s3 s4) x0
def f58 (L N : Nat) : Nat → Tree → Option (Int)
  | 0, _ => none
  | n + 1, x0 => f58.b L N (f58 L N n) some x0
def f58.ent (L N m : Nat) (args : List AV) (vw : View) (site : Nat) : Ans := match roD [(.st 1)] vw args with
  | some d => ⟨Int, f58 L N m d.1, fun y => ((.tv i64 y), [], [])⟩
  | none => Ans.no
def Φ58s (L N m : Nat) : Tells := (addT (Φ30 L N) 58 (f58.ent L N m))
noncomputable def E58 (L N m : Nat) : Env := { P := Try.prog, ty := tyOf, Φ := Φ58s L N m, inl := fun _ => false, live := lives, liveX := livesX, L := L }
noncomputable def f58.c0 : Code := loopAt 0 (codeOf Try.f58)
theorem f58.s0_pre {R : Type} (L N m : Nat) (κ : Ex → T → H → Option R) (rec : T → H → Option R) (s0 : Int) (s1 : Int) (s2 : Int) (s3 : Int) (s4 : (List Tree)) :
    evRd (E58 L N m) (evCallI (E58 L N m) 0 1000) 1000 58 26 0 f58.c0 κ rec (f58.T0 s0 s1 s2 s3 s4) (f58.H0 s0 s1 s2 s3 s4)
    = f58.s0' L N (f58 L N m) (fun z5 z6 z7 z8 => κ (.exit 0) (f58.T0_e0 z5 z6 z7 z8) (f58.H0_e0 z5 z6 z7 z8)) (fun s0 s1 s2 s3 s4 => rec (f58.T0 s0 s1 s2 s3 s4) (f58.H0 s0 s1 s2 s3 s4)) s0 s1 s2 s3 s4 := by kernel_rfl
theorem f58.s0_eq {R : Type} (L N m : Nat) (κ : Ex → T → H → Option R) (rec : T → H → Option R) (s0 : Int) (s1 : Int) (s2 : Int) (s3 : Int) (s4 : (List Tree)) :
    evRd (E58 L N m) (evCallI (E58 L N m) 0 1000) 1000 58 26 0 f58.c0 κ rec (f58.T0 s0 s1 s2 s3 s4) (f58.H0 s0 s1 s2 s3 s4)
    = f58.s0 L N (f58 L N m) (fun z5 z6 z7 z8 => κ (.exit 0) (f58.T0_e0 z5 z6 z7 z8) (f58.H0_e0 z5 z6 z7 z8)) (fun s0 s1 s2 s3 s4 => rec (f58.T0 s0 s1 s2 s3 s4) (f58.H0 s0 s1 s2 s3 s4)) s0 s1 s2 s3 s4 := by
  rw [f58.s0_pre]
  unfold f58.s0
  rfl
theorem f58.l0_eq {R : Type} (L N m : Nat) (κ : Ex → T → H → Option R) : ∀ (n : Nat) (s0 : Int) (s1 : Int) (s2 : Int) (s3 : Int) (s4 : (List Tree)),
    evLp (E58 L N m) (evCallI (E58 L N m) 0 1000) 1000 58 26 0 f58.c0 κ n (f58.T0 s0 s1 s2 s3 s4) (f58.H0 s0 s1 s2 s3 s4)
    = f58.l0 L N (f58 L N m) (fun z5 z6 z7 z8 => κ (.exit 0) (f58.T0_e0 z5 z6 z7 z8) (f58.H0_e0 z5 z6 z7 z8)) n s0 s1 s2 s3 s4 := by
  intro n
  induction n with
  | zero => intros; rfl
  | succ n ih =>
    intro s0 s1 s2 s3 s4
    rw [evLp_succ, f58.s0_eq]
    simp only [ih]
    rfl
theorem f58.p0_e0_pre {R : Type} (L N m : Nat) (κ : AV → Option R) (z5 : Int) (z6 : Int) (z7 : Int) (z8 : (List Tree)) :
    (contAt (E58 L N m) (evCallI (E58 L N m) 0 1000) 1000 58 26 0 (codeOf Try.f58) (finK (E58 L N m) 1000 Try.f58 (finC (.one i64) κ))) (.exit 0) (f58.T0_e0 z5 z6 z7 z8) (f58.H0_e0 z5 z6 z7 z8)
    = f58.p0_e0' L N (f58 L N m) (fun a0 => κ (.tv i64 a0)) z5 z6 z7 z8 := by kernel_rfl
theorem f58.p0_e0_eq {R : Type} (L N m : Nat) (κ : AV → Option R) (z5 : Int) (z6 : Int) (z7 : Int) (z8 : (List Tree)) :
    (contAt (E58 L N m) (evCallI (E58 L N m) 0 1000) 1000 58 26 0 (codeOf Try.f58) (finK (E58 L N m) 1000 Try.f58 (finC (.one i64) κ))) (.exit 0) (f58.T0_e0 z5 z6 z7 z8) (f58.H0_e0 z5 z6 z7 z8)
    = f58.p0_e0 L N (f58 L N m) (fun a0 => κ (.tv i64 a0)) z5 z6 z7 z8 := by
  rw [f58.p0_e0_pre]
  unfold f58.p0_e0
  rfl
theorem f58.b_pre {R : Type} (L N m : Nat) (κ : AV → Option R) (x0 : Tree) :
    evBody (E58 L N m) (evCallI (E58 L N m) 0 1000) 1000 58 Try.f58 [(.tv (.st 1) x0)] [] [] (finC (.one i64) κ)
    = f58.b' L N (f58 L N m) (fun a0 => κ (.tv i64 a0)) (fun s0 s1 s2 s3 s4 => evLp (E58 L N m) (evCallI (E58 L N m) 0 1000) 1000 58 26 0 f58.c0 (contAt (E58 L N m) (evCallI (E58 L N m) 0 1000) 1000 58 26 0 (codeOf Try.f58) (finK (E58 L N m) 1000 Try.f58 (finC (.one i64) κ))) L (f58.T0 s0 s1 s2 s3 s4) (f58.H0 s0 s1 s2 s3 s4)) x0 := by kernel_rfl
theorem f58.b_eq {R : Type} (L N m : Nat) (κ : AV → Option R) (x0 : Tree) :
    evBody (E58 L N m) (evCallI (E58 L N m) 0 1000) 1000 58 Try.f58 [(.tv (.st 1) x0)] [] [] (finC (.one i64) κ)
    = f58.b L N (f58 L N m) (fun a0 => κ (.tv i64 a0)) x0 := by
  rw [f58.b_pre]
  unfold f58.b
  simp only [f58.l0_eq, f58.p0_e0_eq]
theorem f58.s0'_nat {R R' : Type} (j : R → Option R') (L N : Nat) (self58 : Tree → Option (Int)) (k0_e0 : Int → Int → Int → (List Tree) → Option R) (rec0 : Int → Int → Int → Int → (List Tree) → Option R) (s0 : Int) (s1 : Int) (s2 : Int) (s3 : Int) (s4 : (List Tree)) :
    f58.s0' L N self58 (fun a0 a1 a2 a3 => (k0_e0 a0 a1 a2 a3).bind j) (fun a0 a1 a2 a3 a4 => (rec0 a0 a1 a2 a3 a4).bind j) s0 s1 s2 s3 s4 = (f58.s0' L N self58 k0_e0 rec0 s0 s1 s2 s3 s4).bind j := by
  unfold f58.s0'
  repeat' (first | (with_reducible refine cond_nat ?_ ?_) | (with_reducible refine bind_nat fun _ => ?_) | rfl)
theorem f58.s0_nat {R R' : Type} (j : R → Option R') (L N : Nat) (self58 : Tree → Option (Int)) (k0_e0 : Int → Int → Int → (List Tree) → Option R) (rec0 : Int → Int → Int → Int → (List Tree) → Option R) (s0 : Int) (s1 : Int) (s2 : Int) (s3 : Int) (s4 : (List Tree)) :
    f58.s0 L N self58 (fun a0 a1 a2 a3 => (k0_e0 a0 a1 a2 a3).bind j) (fun a0 a1 a2 a3 a4 => (rec0 a0 a1 a2 a3 a4).bind j) s0 s1 s2 s3 s4 = (f58.s0 L N self58 k0_e0 rec0 s0 s1 s2 s3 s4).bind j := by
  unfold f58.s0
  exact f58.s0'_nat ..
theorem f58.l0_nat {R R' : Type} (j : R → Option R') (L N : Nat) (self58 : Tree → Option (Int)) (k0_e0 : Int → Int → Int → (List Tree) → Option R) : ∀ (n : Nat) (s0 : Int) (s1 : Int) (s2 : Int) (s3 : Int) (s4 : (List Tree)),
    f58.l0 L N self58 (fun a0 a1 a2 a3 => (k0_e0 a0 a1 a2 a3).bind j) n s0 s1 s2 s3 s4 = (f58.l0 L N self58 k0_e0 n s0 s1 s2 s3 s4).bind j := by
  intro n
  induction n with
  | zero => intros; rfl
  | succ n ih =>
    intro s0 s1 s2 s3 s4
    show f58.s0 L N self58 (fun a0 a1 a2 a3 => (k0_e0 a0 a1 a2 a3).bind j) (f58.l0 L N self58 (fun a0 a1 a2 a3 => (k0_e0 a0 a1 a2 a3).bind j) n) s0 s1 s2 s3 s4 = _
    rw [show f58.l0 L N self58 (fun a0 a1 a2 a3 => (k0_e0 a0 a1 a2 a3).bind j) n = (fun s0 s1 s2 s3 s4 => (f58.l0 L N self58 k0_e0 n s0 s1 s2 s3 s4).bind j) from funext fun s0 => funext fun s1 => funext fun s2 => funext fun s3 => funext fun s4 => ih s0 s1 s2 s3 s4]
    exact f58.s0_nat ..
theorem f58.p0_e0'_nat {R R' : Type} (j : R → Option R') (L N : Nat) (self58 : Tree → Option (Int)) (k : Int → Option R) (z5 : Int) (z6 : Int) (z7 : Int) (z8 : (List Tree)) :
    f58.p0_e0' L N self58 (fun a0 => (k a0).bind j) z5 z6 z7 z8 = (f58.p0_e0' L N self58 k z5 z6 z7 z8).bind j := by
  unfold f58.p0_e0'
  repeat' (first | (with_reducible refine cond_nat ?_ ?_) | (with_reducible refine bind_nat fun _ => ?_) | rfl)
theorem f58.p0_e0_nat {R R' : Type} (j : R → Option R') (L N : Nat) (self58 : Tree → Option (Int)) (k : Int → Option R) (z5 : Int) (z6 : Int) (z7 : Int) (z8 : (List Tree)) :
    f58.p0_e0 L N self58 (fun a0 => (k a0).bind j) z5 z6 z7 z8 = (f58.p0_e0 L N self58 k z5 z6 z7 z8).bind j := by
  unfold f58.p0_e0
  exact f58.p0_e0'_nat ..
theorem f58.b'_nat {R R' : Type} (j : R → Option R') (L N : Nat) (self58 : Tree → Option (Int)) (k : Int → Option R) (w0 : Int → Int → Int → Int → (List Tree) → Option R) (x0 : Tree) :
    f58.b' L N self58 (fun a0 => (k a0).bind j) (fun a0 a1 a2 a3 a4 => (w0 a0 a1 a2 a3 a4).bind j) x0 = (f58.b' L N self58 k w0 x0).bind j := by
  unfold f58.b'
  repeat' (first | (with_reducible refine cond_nat ?_ ?_) | (with_reducible refine bind_nat fun _ => ?_) | rfl)
theorem f58.b_nat {R R' : Type} (j : R → Option R') (L N : Nat) (self58 : Tree → Option (Int)) (k : Int → Option R) (x0 : Tree) :
    f58.b L N self58 (fun a0 => (k a0).bind j) x0 = (f58.b L N self58 k x0).bind j := by
  unfold f58.b
  simp only [f58.l0_nat, f58.p0_e0_nat]
  exact f58.b'_nat ..
theorem f58.ok (L N m : Nat) (hΦ : TellsOk Try.prog (Φ58s L N m)) : EntOk Try.prog 58 (f58.ent L N (m + 1)) := by
  intro args vw site h
  unfold f58.ent
  split
  · rename_i d ha
    intro y hy hs
    refine call_ro (dep := 1000) (E := (E58 L N m)) (rs := (.one i64)) (v := (.tv i64 y)) (sound_of hΦ) okP (callI_sound (sound_of hΦ) okP 0 1000) (f := Try.f58) rfl hs ha ?_ rfl site
    refine (f58.b_eq L N m some d.1).trans ?_
    refine ((f58.b_nat (fun y => (some (.tv i64 y) : Option AV)) L N (f58 L N m) some d.1)).trans ?_
    rw [show f58.b L N (f58 L N m) some d.1 = some y from hy]
    rfl
  · intro y hy
    cases hy
theorem Φ58s_ok (L N : Nat) : ∀ m, TellsOk Try.prog (Φ58s L N m) := by
  intro m
  induction m with
  | zero => exact (addT_ok (Φ30_ok L N) (fun args vw site h => by unfold f58.ent; split <;> (intro y hy; cases hy)))
  | succ m ih => exact (addT_ok (Φ30_ok L N) (f58.ok L N m ih))
def Φ58 (L N : Nat) : Tells := (addT (Φ30 L N) 58 (f58.ent L N N))
theorem Φ58_ok (L N : Nat) : TellsOk Try.prog (Φ58 L N) := Φ58s_ok L N N
def f31.b' {R : Type} (L N : Nat) (k : Int → Option R) (x0 : Tree) : Option R :=
  (f25 L N (Tree.mk x0.op x0.n x0.parts)).bind fun y0 =>
  bif (!y0) then
    k (-1 : Int)
  else (f58 L N N (Tree.mk x0.op x0.n x0.parts)).bind fun y1 =>
  k y1
def f31.b {R : Type} (L N : Nat) (k : Int → Option R) (x0 : Tree) : Option R :=
  f31.b' L N k x0
def f31 (L N : Nat) (x0 : Tree) : Option (Int) := f31.b L N some x0
def f31.ent (L N : Nat) (args : List AV) (vw : View) (site : Nat) : Ans := match roD [(.st 1)] vw args with
  | some d => ⟨Int, f31 L N d.1, fun y => ((.tv i64 y), [], [])⟩
  | none => Ans.no
noncomputable def E31 (L N : Nat) : Env := { P := Try.prog, ty := tyOf, Φ := (Φ58 L N), inl := fun _ => false, live := lives, liveX := livesX, L := L }
theorem f31.b_pre {R : Type} (L N : Nat) (κ : AV → Option R) (x0 : Tree) :
    evBody (E31 L N) (evCallI (E31 L N) 0 1000) 1000 31 Try.f31 [(.tv (.st 1) x0)] [] [] (finC (.one i64) κ)
    = f31.b' L N (fun a0 => κ (.tv i64 a0)) x0 := by kernel_rfl
theorem f31.b_eq {R : Type} (L N : Nat) (κ : AV → Option R) (x0 : Tree) :
    evBody (E31 L N) (evCallI (E31 L N) 0 1000) 1000 31 Try.f31 [(.tv (.st 1) x0)] [] [] (finC (.one i64) κ)
    = f31.b L N (fun a0 => κ (.tv i64 a0)) x0 := by
  rw [f31.b_pre]
  unfold f31.b
  rfl
theorem f31.b'_nat {R R' : Type} (j : R → Option R') (L N : Nat) (k : Int → Option R) (x0 : Tree) :
    f31.b' L N (fun a0 => (k a0).bind j) x0 = (f31.b' L N k x0).bind j := by
  unfold f31.b'
  repeat' (first | (with_reducible refine cond_nat ?_ ?_) | (with_reducible refine bind_nat fun _ => ?_) | rfl)
theorem f31.b_nat {R R' : Type} (j : R → Option R') (L N : Nat) (k : Int → Option R) (x0 : Tree) :
    f31.b L N (fun a0 => (k a0).bind j) x0 = (f31.b L N k x0).bind j := by
  unfold f31.b
  exact f31.b'_nat ..
theorem f31.ok (L N : Nat) (hΦ : TellsOk Try.prog ((Φ58 L N))) : EntOk Try.prog 31 (f31.ent L N) := by
  intro args vw site h
  unfold f31.ent
  split
  · rename_i d ha
    intro y hy hs
    refine call_ro (dep := 1000) (E := (E31 L N)) (rs := (.one i64)) (v := (.tv i64 y)) (sound_of hΦ) okP (callI_sound (sound_of hΦ) okP 0 1000) (f := Try.f31) rfl hs ha ?_ rfl site
    refine (f31.b_eq L N some d.1).trans ?_
    refine ((f31.b_nat (fun y => (some (.tv i64 y) : Option AV)) L N some d.1)).trans ?_
    rw [show f31.b L N some d.1 = some y from hy]
    rfl
  · intro y hy
    cases hy
def Φ31 (L N : Nat) : Tells := (addT (Φ58 L N) 31 (f31.ent L N))
theorem Φ31_ok (L N : Nat) : TellsOk Try.prog (Φ31 L N) := addT_ok (Φ58_ok L N) (f31.ok L N (Φ58_ok L N))
def f7.b' {R : Type} (L N : Nat) (k : Bool → Option R) (x0 : (List Int)) : Option R :=
  bif (decide ((x0.length : Int) > (1048576 : Int))) then
    k true
  else (f29 L N x0).bind fun y0 =>
  (f30 L N (Tree.mk y0.op y0.n y0.parts)).bind fun y1 =>
  (f31 L N (Tree.mk y0.op y0.n y0.parts)).bind fun y2 =>
  bif (y1 != y2) then
    k false
  else bif (decide (y1 < (0 : Int))) then
    k true
  else (f27 L N (Tree.mk (3 : Int) (1 : Int) ([(Tree.mk y0.op y0.n y0.parts)] : (List Tree)))).bind fun y3 =>
  bif (!y3) then
    (f27 L N (Tree.mk (1 : Int) (0 : Int) ([(Tree.mk y0.op y0.n y0.parts)] : (List Tree)))).bind fun y4 =>
    bif (!y4) then
      k true
    else (f30 L N (Tree.mk (1 : Int) (0 : Int) ([(Tree.mk y0.op y0.n y0.parts)] : (List Tree)))).bind fun y5 =>
    k (y5 == y1)
  else (f30 L N (Tree.mk (3 : Int) (1 : Int) ([(Tree.mk y0.op y0.n y0.parts)] : (List Tree)))).bind fun y6 =>
  bif (y6 == (wi (y1 + (1 : Int)))) then
    (f27 L N (Tree.mk (1 : Int) (0 : Int) ([(Tree.mk y0.op y0.n y0.parts)] : (List Tree)))).bind fun y7 =>
    bif (!y7) then
      k true
    else (f30 L N (Tree.mk (1 : Int) (0 : Int) ([(Tree.mk y0.op y0.n y0.parts)] : (List Tree)))).bind fun y8 =>
    k (y8 == y1)
  else k false
def f7.b {R : Type} (L N : Nat) (k : Bool → Option R) (x0 : (List Int)) : Option R :=
  f7.b' L N k x0
def f7 (L N : Nat) (x0 : (List Int)) : Option (Bool) := f7.b L N some x0
def f7.ent (L N : Nat) (args : List AV) (vw : View) (site : Nat) : Ans := match roD [(.sl (.int .u8))] vw args with
  | some d => ⟨Bool, f7 L N d.1, fun y => ((.tv .bool y), [], [])⟩
  | none => Ans.no
noncomputable def E7 (L N : Nat) : Env := { P := Try.prog, ty := tyOf, Φ := (Φ31 L N), inl := fun _ => false, live := lives, liveX := livesX, L := L }
theorem f7.b_pre {R : Type} (L N : Nat) (κ : AV → Option R) (x0 : (List Int)) :
    evBody (E7 L N) (evCallI (E7 L N) 0 1000) 1000 7 Try.f7 [(.tv (.sl (.int .u8)) x0)] [] [] (finC (.one .bool) κ)
    = f7.b' L N (fun a0 => κ (.tv .bool a0)) x0 := by kernel_rfl
theorem f7.b_eq {R : Type} (L N : Nat) (κ : AV → Option R) (x0 : (List Int)) :
    evBody (E7 L N) (evCallI (E7 L N) 0 1000) 1000 7 Try.f7 [(.tv (.sl (.int .u8)) x0)] [] [] (finC (.one .bool) κ)
    = f7.b L N (fun a0 => κ (.tv .bool a0)) x0 := by
  rw [f7.b_pre]
  unfold f7.b
  rfl
theorem f7.b'_nat {R R' : Type} (j : R → Option R') (L N : Nat) (k : Bool → Option R) (x0 : (List Int)) :
    f7.b' L N (fun a0 => (k a0).bind j) x0 = (f7.b' L N k x0).bind j := by
  unfold f7.b'
  repeat' (first | (with_reducible refine cond_nat ?_ ?_) | (with_reducible refine bind_nat fun _ => ?_) | rfl)
theorem f7.b_nat {R R' : Type} (j : R → Option R') (L N : Nat) (k : Bool → Option R) (x0 : (List Int)) :
    f7.b L N (fun a0 => (k a0).bind j) x0 = (f7.b L N k x0).bind j := by
  unfold f7.b
  exact f7.b'_nat ..
theorem f7.ok (L N : Nat) (hΦ : TellsOk Try.prog ((Φ31 L N))) : EntOk Try.prog 7 (f7.ent L N) := by
  intro args vw site h
  unfold f7.ent
  split
  · rename_i d ha
    intro y hy hs
    refine call_ro (dep := 1000) (E := (E7 L N)) (rs := (.one .bool)) (v := (.tv .bool y)) (sound_of hΦ) okP (callI_sound (sound_of hΦ) okP 0 1000) (f := Try.f7) rfl hs ha ?_ rfl site
    refine (f7.b_eq L N some d.1).trans ?_
    refine ((f7.b_nat (fun y => (some (.tv .bool y) : Option AV)) L N some d.1)).trans ?_
    rw [show f7.b L N some d.1 = some y from hy]
    rfl
  · intro y hy
    cases hy
def Φ7 (L N : Nat) : Tells := (addT (Φ31 L N) 7 (f7.ent L N))
theorem Φ7_ok (L N : Nat) : TellsOk Try.prog (Φ7 L N) := addT_ok (Φ31_ok L N) (f7.ok L N (Φ31_ok L N))
def f8.b' {R : Type} (L N : Nat) (k : Bool → Option R) (x0 : Tree) : Option R :=
  (f24 L N N (Tree.mk x0.op x0.n x0.parts) (1048576 : Int)).bind fun y0 =>
  bif (decide (y0 < (0 : Int))) then
    k true
  else (f26 L N N (Tree.mk x0.op x0.n x0.parts)).bind fun y1 =>
  (f31 L N y1).bind fun y2 =>
  (f26 L N N (Tree.mk x0.op x0.n x0.parts)).bind fun y3 =>
  (f30 L N (Tree.mk y3.op y3.n y3.parts)).bind fun y4 =>
  bif (y4 != y2) then
    k false
  else (f26 L N N (Tree.mk x0.op x0.n x0.parts)).bind fun y5 =>
  (f28 L N N (Tree.mk y3.op y3.n y3.parts) y5).bind fun y6 =>
  bif (!y6) then
    k false
  else k true
def f8.b {R : Type} (L N : Nat) (k : Bool → Option R) (x0 : Tree) : Option R :=
  f8.b' L N k x0
def f8 (L N : Nat) (x0 : Tree) : Option (Bool) := f8.b L N some x0
def f8.ent (L N : Nat) (args : List AV) (vw : View) (site : Nat) : Ans := match roD [(.st 1)] vw args with
  | some d => ⟨Bool, f8 L N d.1, fun y => ((.tv .bool y), [], [])⟩
  | none => Ans.no
noncomputable def E8 (L N : Nat) : Env := { P := Try.prog, ty := tyOf, Φ := (Φ7 L N), inl := fun _ => false, live := lives, liveX := livesX, L := L }
theorem f8.b_pre {R : Type} (L N : Nat) (κ : AV → Option R) (x0 : Tree) :
    evBody (E8 L N) (evCallI (E8 L N) 0 1000) 1000 8 Try.f8 [(.tv (.st 1) x0)] [] [] (finC (.one .bool) κ)
    = f8.b' L N (fun a0 => κ (.tv .bool a0)) x0 := by kernel_rfl
theorem f8.b_eq {R : Type} (L N : Nat) (κ : AV → Option R) (x0 : Tree) :
    evBody (E8 L N) (evCallI (E8 L N) 0 1000) 1000 8 Try.f8 [(.tv (.st 1) x0)] [] [] (finC (.one .bool) κ)
    = f8.b L N (fun a0 => κ (.tv .bool a0)) x0 := by
  rw [f8.b_pre]
  unfold f8.b
  rfl
theorem f8.b'_nat {R R' : Type} (j : R → Option R') (L N : Nat) (k : Bool → Option R) (x0 : Tree) :
    f8.b' L N (fun a0 => (k a0).bind j) x0 = (f8.b' L N k x0).bind j := by
  unfold f8.b'
  repeat' (first | (with_reducible refine cond_nat ?_ ?_) | (with_reducible refine bind_nat fun _ => ?_) | rfl)
theorem f8.b_nat {R R' : Type} (j : R → Option R') (L N : Nat) (k : Bool → Option R) (x0 : Tree) :
    f8.b L N (fun a0 => (k a0).bind j) x0 = (f8.b L N k x0).bind j := by
  unfold f8.b
  exact f8.b'_nat ..
theorem f8.ok (L N : Nat) (hΦ : TellsOk Try.prog ((Φ7 L N))) : EntOk Try.prog 8 (f8.ent L N) := by
  intro args vw site h
  unfold f8.ent
  split
  · rename_i d ha
    intro y hy hs
    refine call_ro (dep := 1000) (E := (E8 L N)) (rs := (.one .bool)) (v := (.tv .bool y)) (sound_of hΦ) okP (callI_sound (sound_of hΦ) okP 0 1000) (f := Try.f8) rfl hs ha ?_ rfl site
    refine (f8.b_eq L N some d.1).trans ?_
    refine ((f8.b_nat (fun y => (some (.tv .bool y) : Option AV)) L N some d.1)).trans ?_
    rw [show f8.b L N some d.1 = some y from hy]
    rfl
  · intro y hy
    cases hy
def Φ8 (L N : Nat) : Tells := (addT (Φ7 L N) 8 (f8.ent L N))
theorem Φ8_ok (L N : Nat) : TellsOk Try.prog (Φ8 L N) := addT_ok (Φ7_ok L N) (f8.ok L N (Φ7_ok L N))
def f32.b' {R : Type} (L N : Nat) (k : Tree → Option R) (x0 : (List Int)) : Option R :=
  (f44 L N x0).bind fun y0 =>
  (f56 L N y0.1 y0.2 (5 : Int)).bind fun y1 =>
  (f55 L N N y1.2.1 y1.2.2 y1.1).bind fun y2 =>
  k (Tree.mk ((Tree.mk y2.1.op y2.1.n y2.1.parts).op) ((Tree.mk y2.1.op y2.1.n y2.1.parts).n) ((Tree.mk y2.1.op y2.1.n y2.1.parts).parts))
def f32.b {R : Type} (L N : Nat) (k : Tree → Option R) (x0 : (List Int)) : Option R :=
  f32.b' L N k x0
def f32 (L N : Nat) (x0 : (List Int)) : Option (Tree) := f32.b L N some x0
def f32.ent (L N : Nat) (args : List AV) (vw : View) (site : Nat) : Ans := match coeD [(.sl (.int .u8))] vw args with
  | some (d, u) => ⟨Tree, f32 L N d.1, fun y => ((.tv (.st 1) y), u, [])⟩
  | none => Ans.no
noncomputable def E32 (L N : Nat) : Env := { P := Try.prog, ty := tyOf, Φ := (Φ8 L N), inl := fun _ => false, live := lives, liveX := livesX, L := L }
theorem f32.b_pre {R : Type} (L N : Nat) (κ : AV → Option R) (x0 : (List Int)) :
    evBody (E32 L N) (evCallI (E32 L N) 0 1000) 1000 32 Try.f32 [(.tv (.sl (.int .u8)) x0)] [] [] (finC (.one (.st 1)) κ)
    = f32.b' L N (fun a0 => κ (.tv (.st 1) a0)) x0 := by kernel_rfl
theorem f32.b_eq {R : Type} (L N : Nat) (κ : AV → Option R) (x0 : (List Int)) :
    evBody (E32 L N) (evCallI (E32 L N) 0 1000) 1000 32 Try.f32 [(.tv (.sl (.int .u8)) x0)] [] [] (finC (.one (.st 1)) κ)
    = f32.b L N (fun a0 => κ (.tv (.st 1) a0)) x0 := by
  rw [f32.b_pre]
  unfold f32.b
  rfl
theorem f32.b'_nat {R R' : Type} (j : R → Option R') (L N : Nat) (k : Tree → Option R) (x0 : (List Int)) :
    f32.b' L N (fun a0 => (k a0).bind j) x0 = (f32.b' L N k x0).bind j := by
  unfold f32.b'
  repeat' (first | (with_reducible refine cond_nat ?_ ?_) | (with_reducible refine bind_nat fun _ => ?_) | rfl)
theorem f32.b_nat {R R' : Type} (j : R → Option R') (L N : Nat) (k : Tree → Option R) (x0 : (List Int)) :
    f32.b L N (fun a0 => (k a0).bind j) x0 = (f32.b L N k x0).bind j := by
  unfold f32.b
  exact f32.b'_nat ..
theorem f32.ok (L N : Nat) (hΦ : TellsOk Try.prog ((Φ8 L N))) : EntOk Try.prog 32 (f32.ent L N) := by
  intro args vw site h
  unfold f32.ent
  split
  · rename_i d u ha
    intro y hy hs
    refine call_data (dep := 1000) (E := (E32 L N)) (rs := (.one (.st 1))) (v' := (.tv (.st 1) y)) (sound_of hΦ) okP (callI_sound (sound_of hΦ) okP 0 1000) (f := Try.f32) rfl hs ha ?_ site
    refine (f32.b_eq L N some d.1).trans ?_
    refine ((f32.b_nat (fun y => (some (.tv (.st 1) y) : Option AV)) L N some d.1)).trans ?_
    rw [show f32.b L N some d.1 = some y from hy]
    rfl
  · intro y hy
    cases hy
def Φ32 (L N : Nat) : Tells := (addT (Φ8 L N) 32 (f32.ent L N))
theorem Φ32_ok (L N : Nat) : TellsOk Try.prog (Φ32 L N) := addT_ok (Φ8_ok L N) (f32.ok L N (Φ8_ok L N))
def f93.b' {R : Type} (L N : Nat) (k : ByteArray → Option R) (x0 : Int) : Option R :=
  k (strOfNums ([(IntKind.wrap .u8 ((wi ((97 : Int) + x0))))] : (List Int)))
def f93.b {R : Type} (L N : Nat) (k : ByteArray → Option R) (x0 : Int) : Option R :=
  f93.b' L N k x0
def f93 (L N : Nat) (x0 : Int) : Option (ByteArray) := f93.b L N some x0
def f93.ent (L N : Nat) (args : List AV) (vw : View) (site : Nat) : Ans := match roD [i64] vw args with
  | some d => ⟨ByteArray, f93 L N d.1, fun y => ((.tv .str y), [], [])⟩
  | none => Ans.no
noncomputable def E93 (L N : Nat) : Env := { P := Try.prog, ty := tyOf, Φ := (Φ32 L N), inl := fun _ => false, live := lives, liveX := livesX, L := L }
theorem f93.b_pre {R : Type} (L N : Nat) (κ : AV → Option R) (x0 : Int) :
    evBody (E93 L N) (evCallI (E93 L N) 0 1000) 1000 93 Try.f93 [(.tv i64 x0)] [] [] (finC (.one .str) κ)
    = f93.b' L N (fun a0 => κ (.tv .str a0)) x0 := by kernel_rfl
theorem f93.b_eq {R : Type} (L N : Nat) (κ : AV → Option R) (x0 : Int) :
    evBody (E93 L N) (evCallI (E93 L N) 0 1000) 1000 93 Try.f93 [(.tv i64 x0)] [] [] (finC (.one .str) κ)
    = f93.b L N (fun a0 => κ (.tv .str a0)) x0 := by
  rw [f93.b_pre]
  unfold f93.b
  rfl
theorem f93.b'_nat {R R' : Type} (j : R → Option R') (L N : Nat) (k : ByteArray → Option R) (x0 : Int) :
    f93.b' L N (fun a0 => (k a0).bind j) x0 = (f93.b' L N k x0).bind j := by
  unfold f93.b'
  repeat' (first | (with_reducible refine cond_nat ?_ ?_) | (with_reducible refine bind_nat fun _ => ?_) | rfl)
theorem f93.b_nat {R R' : Type} (j : R → Option R') (L N : Nat) (k : ByteArray → Option R) (x0 : Int) :
    f93.b L N (fun a0 => (k a0).bind j) x0 = (f93.b L N k x0).bind j := by
  unfold f93.b
  exact f93.b'_nat ..
theorem f93.ok (L N : Nat) (hΦ : TellsOk Try.prog ((Φ32 L N))) : EntOk Try.prog 93 (f93.ent L N) := by
  intro args vw site h
  unfold f93.ent
  split
  · rename_i d ha
    intro y hy hs
    refine call_ro (dep := 1000) (E := (E93 L N)) (rs := (.one .str)) (v := (.tv .str y)) (sound_of hΦ) okP (callI_sound (sound_of hΦ) okP 0 1000) (f := Try.f93) rfl hs ha ?_ rfl site
    refine (f93.b_eq L N some d.1).trans ?_
    refine ((f93.b_nat (fun y => (some (.tv .str y) : Option AV)) L N some d.1)).trans ?_
    rw [show f93.b L N some d.1 = some y from hy]
    rfl
  · intro y hy
    cases hy
def Φ93 (L N : Nat) : Tells := (addT (Φ32 L N) 93 (f93.ent L N))
theorem Φ93_ok (L N : Nat) : TellsOk Try.prog (Φ93 L N) := addT_ok (Φ32_ok L N) (f93.ok L N (Φ32_ok L N))
def f94.b' {R : Type} (L N : Nat) (k : Int → Option R) (x0 : Int) : Option R :=
  k (wi ((bif decide ((wi (0 - x0)) > x0) then (wi (0 - x0)) else x0) - (1 : Int)))
def f94.b {R : Type} (L N : Nat) (k : Int → Option R) (x0 : Int) : Option R :=
  f94.b' L N k x0
def f94 (L N : Nat) (x0 : Int) : Option (Int) := f94.b L N some x0
def f94.ent (L N : Nat) (args : List AV) (vw : View) (site : Nat) : Ans := match roD [i64] vw args with
  | some d => ⟨Int, f94 L N d.1, fun y => ((.tv i64 y), [], [])⟩
  | none => Ans.no
noncomputable def E94 (L N : Nat) : Env := { P := Try.prog, ty := tyOf, Φ := (Φ93 L N), inl := fun _ => false, live := lives, liveX := livesX, L := L }
theorem f94.b_pre {R : Type} (L N : Nat) (κ : AV → Option R) (x0 : Int) :
    evBody (E94 L N) (evCallI (E94 L N) 0 1000) 1000 94 Try.f94 [(.tv i64 x0)] [] [] (finC (.one i64) κ)
    = f94.b' L N (fun a0 => κ (.tv i64 a0)) x0 := by kernel_rfl
theorem f94.b_eq {R : Type} (L N : Nat) (κ : AV → Option R) (x0 : Int) :
    evBody (E94 L N) (evCallI (E94 L N) 0 1000) 1000 94 Try.f94 [(.tv i64 x0)] [] [] (finC (.one i64) κ)
    = f94.b L N (fun a0 => κ (.tv i64 a0)) x0 := by
  rw [f94.b_pre]
  unfold f94.b
  rfl
theorem f94.b'_nat {R R' : Type} (j : R → Option R') (L N : Nat) (k : Int → Option R) (x0 : Int) :
    f94.b' L N (fun a0 => (k a0).bind j) x0 = (f94.b' L N k x0).bind j := by
  unfold f94.b'
  repeat' (first | (with_reducible refine cond_nat ?_ ?_) | (with_reducible refine bind_nat fun _ => ?_) | rfl)
theorem f94.b_nat {R R' : Type} (j : R → Option R') (L N : Nat) (k : Int → Option R) (x0 : Int) :
    f94.b L N (fun a0 => (k a0).bind j) x0 = (f94.b L N k x0).bind j := by
  unfold f94.b
  exact f94.b'_nat ..
theorem f94.ok (L N : Nat) (hΦ : TellsOk Try.prog ((Φ93 L N))) : EntOk Try.prog 94 (f94.ent L N) := by
  intro args vw site h
  unfold f94.ent
  split
  · rename_i d ha
    intro y hy hs
    refine call_ro (dep := 1000) (E := (E94 L N)) (rs := (.one i64)) (v := (.tv i64 y)) (sound_of hΦ) okP (callI_sound (sound_of hΦ) okP 0 1000) (f := Try.f94) rfl hs ha ?_ rfl site
    refine (f94.b_eq L N some d.1).trans ?_
    refine ((f94.b_nat (fun y => (some (.tv i64 y) : Option AV)) L N some d.1)).trans ?_
    rw [show f94.b L N some d.1 = some y from hy]
    rfl
  · intro y hy
    cases hy
def Φ94 (L N : Nat) : Tells := (addT (Φ93 L N) 94 (f94.ent L N))
theorem Φ94_ok (L N : Nat) : TellsOk Try.prog (Φ94 L N) := addT_ok (Φ93_ok L N) (f94.ok L N (Φ93_ok L N))
def f76.b' {R : Type} (L N : Nat) (k : ByteArray → Option R) (x0 : Int) : Option R :=
  (f74 L N x0).bind fun y0 =>
  bif (!y0) then
    k (ByteArray.mk #[])
  else bif (x0 == (0 : Int)) then
    k (ByteArray.mk #[116, 97, 117])
  else bif (decide (x0 > (0 : Int))) then
    (f94 L N x0).bind fun y1 =>
    (f93 L N y1).bind fun y2 =>
    k y2
  else (f94 L N x0).bind fun y3 =>
  (f93 L N y3).bind fun y4 =>
  bif (decide ((ByteArray.mk #[33]).size + y4.size ≤ 4611686018427387904)) then
    k ((ByteArray.mk #[33]) ++ y4)
  else none
def f76.b {R : Type} (L N : Nat) (k : ByteArray → Option R) (x0 : Int) : Option R :=
  f76.b' L N k x0
def f76 (L N : Nat) (x0 : Int) : Option (ByteArray) := f76.b L N some x0
def f76.ent (L N : Nat) (args : List AV) (vw : View) (site : Nat) : Ans := match roD [i64] vw args with
  | some d => ⟨ByteArray, f76 L N d.1, fun y => ((.tv .str y), [], [])⟩
  | none => Ans.no
noncomputable def E76 (L N : Nat) : Env := { P := Try.prog, ty := tyOf, Φ := (Φ94 L N), inl := fun _ => false, live := lives, liveX := livesX, L := L }
theorem f76.b_pre {R : Type} (L N : Nat) (κ : AV → Option R) (x0 : Int) :
    evBody (E76 L N) (evCallI (E76 L N) 0 1000) 1000 76 Try.f76 [(.tv i64 x0)] [] [] (finC (.one .str) κ)
    = f76.b' L N (fun a0 => κ (.tv .str a0)) x0 := by kernel_rfl
theorem f76.b_eq {R : Type} (L N : Nat) (κ : AV → Option R) (x0 : Int) :
    evBody (E76 L N) (evCallI (E76 L N) 0 1000) 1000 76 Try.f76 [(.tv i64 x0)] [] [] (finC (.one .str) κ)
    = f76.b L N (fun a0 => κ (.tv .str a0)) x0 := by
  rw [f76.b_pre]
  unfold f76.b
  rfl
theorem f76.b'_nat {R R' : Type} (j : R → Option R') (L N : Nat) (k : ByteArray → Option R) (x0 : Int) :
    f76.b' L N (fun a0 => (k a0).bind j) x0 = (f76.b' L N k x0).bind j := by
  unfold f76.b'
  repeat' (first | (with_reducible refine cond_nat ?_ ?_) | (with_reducible refine bind_nat fun _ => ?_) | rfl)
theorem f76.b_nat {R R' : Type} (j : R → Option R') (L N : Nat) (k : ByteArray → Option R) (x0 : Int) :
    f76.b L N (fun a0 => (k a0).bind j) x0 = (f76.b L N k x0).bind j := by
  unfold f76.b
  exact f76.b'_nat ..
theorem f76.ok (L N : Nat) (hΦ : TellsOk Try.prog ((Φ94 L N))) : EntOk Try.prog 76 (f76.ent L N) := by
  intro args vw site h
  unfold f76.ent
  split
  · rename_i d ha
    intro y hy hs
    refine call_ro (dep := 1000) (E := (E76 L N)) (rs := (.one .str)) (v := (.tv .str y)) (sound_of hΦ) okP (callI_sound (sound_of hΦ) okP 0 1000) (f := Try.f76) rfl hs ha ?_ rfl site
    refine (f76.b_eq L N some d.1).trans ?_
    refine ((f76.b_nat (fun y => (some (.tv .str y) : Option AV)) L N some d.1)).trans ?_
    rw [show f76.b L N some d.1 = some y from hy]
    rfl
  · intro y hy
    cases hy
def Φ76 (L N : Nat) : Tells := (addT (Φ94 L N) 76 (f76.ent L N))
theorem Φ76_ok (L N : Nat) : TellsOk Try.prog (Φ76 L N) := addT_ok (Φ94_ok L N) (f76.ok L N (Φ94_ok L N))
def f59.b' {R : Type} (L N : Nat) (self59 : Tree → Option (ByteArray)) (k : ByteArray → Option R) (x0 : Tree) : Option R :=
  bif (x0.op == (1 : Int)) then
    bif (decide (0 ≤ (0 : Int)) && decide ((0 : Int) < (x0.parts.length : Int))) then
      (self59 (listAt x0.parts (Ty.dflt (.st 1)) (0 : Int).toNat)).bind fun y0 =>
      bif (decide ((ByteArray.mk #[40, 110, 111, 116, 32]).size + y0.size ≤ 4611686018427387904)) then
        bif (decide (((ByteArray.mk #[40, 110, 111, 116, 32]) ++ y0).size + (ByteArray.mk #[41]).size ≤ 4611686018427387904)) then
          k (((ByteArray.mk #[40, 110, 111, 116, 32]) ++ y0) ++ (ByteArray.mk #[41]))
        else none
      else none
    else none
  else bif (x0.op == (2 : Int)) then
    bif (decide (0 ≤ (0 : Int)) && decide ((0 : Int) < (x0.parts.length : Int))) then
      (self59 (listAt x0.parts (Ty.dflt (.st 1)) (0 : Int).toNat)).bind fun y1 =>
      bif (decide ((ByteArray.mk #[40, 97, 110, 100, 32]).size + y1.size ≤ 4611686018427387904)) then
        bif (decide (((ByteArray.mk #[40, 97, 110, 100, 32]) ++ y1).size + (ByteArray.mk #[32]).size ≤ 4611686018427387904)) then
          bif (decide (0 ≤ (1 : Int)) && decide ((1 : Int) < (x0.parts.length : Int))) then
            (self59 (listAt x0.parts (Ty.dflt (.st 1)) (1 : Int).toNat)).bind fun y2 =>
            bif (decide ((((ByteArray.mk #[40, 97, 110, 100, 32]) ++ y1) ++ (ByteArray.mk #[32])).size + y2.size ≤ 4611686018427387904)) then
              bif (decide (((((ByteArray.mk #[40, 97, 110, 100, 32]) ++ y1) ++ (ByteArray.mk #[32])) ++ y2).size + (ByteArray.mk #[41]).size ≤ 4611686018427387904)) then
                k (((((ByteArray.mk #[40, 97, 110, 100, 32]) ++ y1) ++ (ByteArray.mk #[32])) ++ y2) ++ (ByteArray.mk #[41]))
              else none
            else none
          else none
        else none
      else none
    else none
  else bif (x0.op == (3 : Int)) then
    (f76 L N x0.n).bind fun y3 =>
    bif (decide ((ByteArray.mk #[40, 109, 97, 121, 32]).size + y3.size ≤ 4611686018427387904)) then
      bif (decide (((ByteArray.mk #[40, 109, 97, 121, 32]) ++ y3).size + (ByteArray.mk #[32]).size ≤ 4611686018427387904)) then
        bif (decide (0 ≤ (0 : Int)) && decide ((0 : Int) < (x0.parts.length : Int))) then
          (self59 (listAt x0.parts (Ty.dflt (.st 1)) (0 : Int).toNat)).bind fun y4 =>
          bif (decide ((((ByteArray.mk #[40, 109, 97, 121, 32]) ++ y3) ++ (ByteArray.mk #[32])).size + y4.size ≤ 4611686018427387904)) then
            bif (decide (((((ByteArray.mk #[40, 109, 97, 121, 32]) ++ y3) ++ (ByteArray.mk #[32])) ++ y4).size + (ByteArray.mk #[41]).size ≤ 4611686018427387904)) then
              k (((((ByteArray.mk #[40, 109, 97, 121, 32]) ++ y3) ++ (ByteArray.mk #[32])) ++ y4) ++ (ByteArray.mk #[41]))
            else none
          else none
        else none
      else none
    else none
  else k (ByteArray.mk #[84])
def f59.b {R : Type} (L N : Nat) (self59 : Tree → Option (ByteArray)) (k : ByteArray → Option R) (x0 : Tree) : Option R :=
  f59.b' L N self59 k x0
def f59 (L N : Nat) : Nat → Tree → Option (ByteArray)
  | 0, _ => none
  | n + 1, x0 => f59.b L N (f59 L N n) some x0
def f59.ent (L N m : Nat) (args : List AV) (vw : View) (site : Nat) : Ans := match roD [(.st 1)] vw args with
  | some d => ⟨ByteArray, f59 L N m d.1, fun y => ((.tv .str y), [], [])⟩
  | none => Ans.no
def Φ59s (L N m : Nat) : Tells := (addT (Φ76 L N) 59 (f59.ent L N m))
noncomputable def E59 (L N m : Nat) : Env := { P := Try.prog, ty := tyOf, Φ := Φ59s L N m, inl := fun _ => false, live := lives, liveX := livesX, L := L }
theorem f59.b_pre {R : Type} (L N m : Nat) (κ : AV → Option R) (x0 : Tree) :
    evBody (E59 L N m) (evCallI (E59 L N m) 0 1000) 1000 59 Try.f59 [(.tv (.st 1) x0)] [] [] (finC (.one .str) κ)
    = f59.b' L N (f59 L N m) (fun a0 => κ (.tv .str a0)) x0 := by kernel_rfl
theorem f59.b_eq {R : Type} (L N m : Nat) (κ : AV → Option R) (x0 : Tree) :
    evBody (E59 L N m) (evCallI (E59 L N m) 0 1000) 1000 59 Try.f59 [(.tv (.st 1) x0)] [] [] (finC (.one .str) κ)
    = f59.b L N (f59 L N m) (fun a0 => κ (.tv .str a0)) x0 := by
  rw [f59.b_pre]
  unfold f59.b
  rfl
theorem f59.b'_nat {R R' : Type} (j : R → Option R') (L N : Nat) (self59 : Tree → Option (ByteArray)) (k : ByteArray → Option R) (x0 : Tree) :
    f59.b' L N self59 (fun a0 => (k a0).bind j) x0 = (f59.b' L N self59 k x0).bind j := by
  unfold f59.b'
  repeat' (first | (with_reducible refine cond_nat ?_ ?_) | (with_reducible refine bind_nat fun _ => ?_) | rfl)
theorem f59.b_nat {R R' : Type} (j : R → Option R') (L N : Nat) (self59 : Tree → Option (ByteArray)) (k : ByteArray → Option R) (x0 : Tree) :
    f59.b L N self59 (fun a0 => (k a0).bind j) x0 = (f59.b L N self59 k x0).bind j := by
  unfold f59.b
  exact f59.b'_nat ..
theorem f59.ok (L N m : Nat) (hΦ : TellsOk Try.prog (Φ59s L N m)) : EntOk Try.prog 59 (f59.ent L N (m + 1)) := by
  intro args vw site h
  unfold f59.ent
  split
  · rename_i d ha
    intro y hy hs
    refine call_ro (dep := 1000) (E := (E59 L N m)) (rs := (.one .str)) (v := (.tv .str y)) (sound_of hΦ) okP (callI_sound (sound_of hΦ) okP 0 1000) (f := Try.f59) rfl hs ha ?_ rfl site
    refine (f59.b_eq L N m some d.1).trans ?_
    refine ((f59.b_nat (fun y => (some (.tv .str y) : Option AV)) L N (f59 L N m) some d.1)).trans ?_
    rw [show f59.b L N (f59 L N m) some d.1 = some y from hy]
    rfl
  · intro y hy
    cases hy
theorem Φ59s_ok (L N : Nat) : ∀ m, TellsOk Try.prog (Φ59s L N m) := by
  intro m
  induction m with
  | zero => exact (addT_ok (Φ76_ok L N) (fun args vw site h => by unfold f59.ent; split <;> (intro y hy; cases hy)))
  | succ m ih => exact (addT_ok (Φ76_ok L N) (f59.ok L N m ih))
def Φ59 (L N : Nat) : Tells := (addT (Φ76 L N) 59 (f59.ent L N N))
theorem Φ59_ok (L N : Nat) : TellsOk Try.prog (Φ59 L N) := Φ59s_ok L N N
def f33.b' {R : Type} (L N : Nat) (k : ByteArray → Option R) (x0 : Tree) : Option R :=
  (f27 L N (Tree.mk x0.op x0.n x0.parts)).bind fun y0 =>
  bif (!y0) then
    k (ByteArray.mk #[])
  else (f59 L N N (Tree.mk x0.op x0.n x0.parts)).bind fun y1 =>
  k y1
def f33.b {R : Type} (L N : Nat) (k : ByteArray → Option R) (x0 : Tree) : Option R :=
  f33.b' L N k x0
def f33 (L N : Nat) (x0 : Tree) : Option (ByteArray) := f33.b L N some x0
def f33.ent (L N : Nat) (args : List AV) (vw : View) (site : Nat) : Ans := match roD [(.st 1)] vw args with
  | some d => ⟨ByteArray, f33 L N d.1, fun y => ((.tv .str y), [], [])⟩
  | none => Ans.no
noncomputable def E33 (L N : Nat) : Env := { P := Try.prog, ty := tyOf, Φ := (Φ59 L N), inl := fun _ => false, live := lives, liveX := livesX, L := L }
theorem f33.b_pre {R : Type} (L N : Nat) (κ : AV → Option R) (x0 : Tree) :
    evBody (E33 L N) (evCallI (E33 L N) 0 1000) 1000 33 Try.f33 [(.tv (.st 1) x0)] [] [] (finC (.one .str) κ)
    = f33.b' L N (fun a0 => κ (.tv .str a0)) x0 := by kernel_rfl
theorem f33.b_eq {R : Type} (L N : Nat) (κ : AV → Option R) (x0 : Tree) :
    evBody (E33 L N) (evCallI (E33 L N) 0 1000) 1000 33 Try.f33 [(.tv (.st 1) x0)] [] [] (finC (.one .str) κ)
    = f33.b L N (fun a0 => κ (.tv .str a0)) x0 := by
  rw [f33.b_pre]
  unfold f33.b
  rfl
theorem f33.b'_nat {R R' : Type} (j : R → Option R') (L N : Nat) (k : ByteArray → Option R) (x0 : Tree) :
    f33.b' L N (fun a0 => (k a0).bind j) x0 = (f33.b' L N k x0).bind j := by
  unfold f33.b'
  repeat' (first | (with_reducible refine cond_nat ?_ ?_) | (with_reducible refine bind_nat fun _ => ?_) | rfl)
theorem f33.b_nat {R R' : Type} (j : R → Option R') (L N : Nat) (k : ByteArray → Option R) (x0 : Tree) :
    f33.b L N (fun a0 => (k a0).bind j) x0 = (f33.b L N k x0).bind j := by
  unfold f33.b
  exact f33.b'_nat ..
theorem f33.ok (L N : Nat) (hΦ : TellsOk Try.prog ((Φ59 L N))) : EntOk Try.prog 33 (f33.ent L N) := by
  intro args vw site h
  unfold f33.ent
  split
  · rename_i d ha
    intro y hy hs
    refine call_ro (dep := 1000) (E := (E33 L N)) (rs := (.one .str)) (v := (.tv .str y)) (sound_of hΦ) okP (callI_sound (sound_of hΦ) okP 0 1000) (f := Try.f33) rfl hs ha ?_ rfl site
    refine (f33.b_eq L N some d.1).trans ?_
    refine ((f33.b_nat (fun y => (some (.tv .str y) : Option AV)) L N some d.1)).trans ?_
    rw [show f33.b L N some d.1 = some y from hy]
    rfl
  · intro y hy
    cases hy
def Φ33 (L N : Nat) : Tells := (addT (Φ59 L N) 33 (f33.ent L N))
theorem Φ33_ok (L N : Nat) : TellsOk Try.prog (Φ33 L N) := addT_ok (Φ59_ok L N) (f33.ok L N (Φ59_ok L N))
def f9.b' {R : Type} (L N : Nat) (k : Bool → Option R) (x0 : (List Int)) : Option R :=
  bif (decide ((x0.length : Int) > (1048576 : Int))) then
    k true
  else (f32 L N x0).bind fun y0 =>
  (f27 L N (Tree.mk y0.op y0.n y0.parts)).bind fun y1 =>
  (f25 L N (Tree.mk y0.op y0.n y0.parts)).bind fun y2 =>
  bif (!(y1 == y2)) then
    k false
  else (f33 L N (Tree.mk y0.op y0.n y0.parts)).bind fun y3 =>
  bif (y1 == (!(y3.toList == (ByteArray.mk #[]).toList))) then
    (f30 L N (Tree.mk y0.op y0.n y0.parts)).bind fun y4 =>
    k (y1 == (decide (y4 ≥ (0 : Int))))
  else k false
def f9.b {R : Type} (L N : Nat) (k : Bool → Option R) (x0 : (List Int)) : Option R :=
  f9.b' L N k x0
def f9 (L N : Nat) (x0 : (List Int)) : Option (Bool) := f9.b L N some x0
def f9.ent (L N : Nat) (args : List AV) (vw : View) (site : Nat) : Ans := match roD [(.sl (.int .u8))] vw args with
  | some d => ⟨Bool, f9 L N d.1, fun y => ((.tv .bool y), [], [])⟩
  | none => Ans.no
noncomputable def E9 (L N : Nat) : Env := { P := Try.prog, ty := tyOf, Φ := (Φ33 L N), inl := fun _ => false, live := lives, liveX := livesX, L := L }
theorem f9.b_pre {R : Type} (L N : Nat) (κ : AV → Option R) (x0 : (List Int)) :
    evBody (E9 L N) (evCallI (E9 L N) 0 1000) 1000 9 Try.f9 [(.tv (.sl (.int .u8)) x0)] [] [] (finC (.one .bool) κ)
    = f9.b' L N (fun a0 => κ (.tv .bool a0)) x0 := by kernel_rfl
theorem f9.b_eq {R : Type} (L N : Nat) (κ : AV → Option R) (x0 : (List Int)) :
    evBody (E9 L N) (evCallI (E9 L N) 0 1000) 1000 9 Try.f9 [(.tv (.sl (.int .u8)) x0)] [] [] (finC (.one .bool) κ)
    = f9.b L N (fun a0 => κ (.tv .bool a0)) x0 := by
  rw [f9.b_pre]
  unfold f9.b
  rfl
theorem f9.b'_nat {R R' : Type} (j : R → Option R') (L N : Nat) (k : Bool → Option R) (x0 : (List Int)) :
    f9.b' L N (fun a0 => (k a0).bind j) x0 = (f9.b' L N k x0).bind j := by
  unfold f9.b'
  repeat' (first | (with_reducible refine cond_nat ?_ ?_) | (with_reducible refine bind_nat fun _ => ?_) | rfl)
theorem f9.b_nat {R R' : Type} (j : R → Option R') (L N : Nat) (k : Bool → Option R) (x0 : (List Int)) :
    f9.b L N (fun a0 => (k a0).bind j) x0 = (f9.b L N k x0).bind j := by
  unfold f9.b
  exact f9.b'_nat ..
theorem f9.ok (L N : Nat) (hΦ : TellsOk Try.prog ((Φ33 L N))) : EntOk Try.prog 9 (f9.ent L N) := by
  intro args vw site h
  unfold f9.ent
  split
  · rename_i d ha
    intro y hy hs
    refine call_ro (dep := 1000) (E := (E9 L N)) (rs := (.one .bool)) (v := (.tv .bool y)) (sound_of hΦ) okP (callI_sound (sound_of hΦ) okP 0 1000) (f := Try.f9) rfl hs ha ?_ rfl site
    refine (f9.b_eq L N some d.1).trans ?_
    refine ((f9.b_nat (fun y => (some (.tv .bool y) : Option AV)) L N some d.1)).trans ?_
    rw [show f9.b L N some d.1 = some y from hy]
    rfl
  · intro y hy
    cases hy
def Φ9 (L N : Nat) : Tells := (addT (Φ33 L N) 9 (f9.ent L N))
theorem Φ9_ok (L N : Nat) : TellsOk Try.prog (Φ9 L N) := addT_ok (Φ33_ok L N) (f9.ok L N (Φ33_ok L N))
def f34.b' {R : Type} (L N : Nat) (k : Tree → Option R) (x0 : (List Int)) : Option R :=
  (f44 L N x0).bind fun y0 =>
  (f56 L N y0.1 y0.2 (5 : Int)).bind fun y1 =>
  (f55 L N N y1.2.1 y1.2.2 y1.1).bind fun y2 =>
  k (Tree.mk ((Tree.mk y2.1.op y2.1.n y2.1.parts).op) ((Tree.mk y2.1.op y2.1.n y2.1.parts).n) ((Tree.mk y2.1.op y2.1.n y2.1.parts).parts))
def f34.b {R : Type} (L N : Nat) (k : Tree → Option R) (x0 : (List Int)) : Option R :=
  f34.b' L N k x0
def f34 (L N : Nat) (x0 : (List Int)) : Option (Tree) := f34.b L N some x0
def f34.ent (L N : Nat) (args : List AV) (vw : View) (site : Nat) : Ans := match coeD [(.sl (.int .u8))] vw args with
  | some (d, u) => ⟨Tree, f34 L N d.1, fun y => ((.tv (.st 1) y), u, [])⟩
  | none => Ans.no
noncomputable def E34 (L N : Nat) : Env := { P := Try.prog, ty := tyOf, Φ := (Φ9 L N), inl := fun _ => false, live := lives, liveX := livesX, L := L }
theorem f34.b_pre {R : Type} (L N : Nat) (κ : AV → Option R) (x0 : (List Int)) :
    evBody (E34 L N) (evCallI (E34 L N) 0 1000) 1000 34 Try.f34 [(.tv (.sl (.int .u8)) x0)] [] [] (finC (.one (.st 1)) κ)
    = f34.b' L N (fun a0 => κ (.tv (.st 1) a0)) x0 := by kernel_rfl
theorem f34.b_eq {R : Type} (L N : Nat) (κ : AV → Option R) (x0 : (List Int)) :
    evBody (E34 L N) (evCallI (E34 L N) 0 1000) 1000 34 Try.f34 [(.tv (.sl (.int .u8)) x0)] [] [] (finC (.one (.st 1)) κ)
    = f34.b L N (fun a0 => κ (.tv (.st 1) a0)) x0 := by
  rw [f34.b_pre]
  unfold f34.b
  rfl
theorem f34.b'_nat {R R' : Type} (j : R → Option R') (L N : Nat) (k : Tree → Option R) (x0 : (List Int)) :
    f34.b' L N (fun a0 => (k a0).bind j) x0 = (f34.b' L N k x0).bind j := by
  unfold f34.b'
  repeat' (first | (with_reducible refine cond_nat ?_ ?_) | (with_reducible refine bind_nat fun _ => ?_) | rfl)
end Go.Proofs.Ythkonljgjjlloaa.Ev
