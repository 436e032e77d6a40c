/- The seat's functions as plain functions: made by program (wip/gen/gen.py). -/
import Derived.Test.YthkonljgjjlloaaEvY
namespace Go.Proofs.Ythkonljgjjlloaa.Ev
open Go
set_option linter.unusedVariables false
set_option maxRecDepth 20000
def tyTab : List (Nat × Ty) := [(2, i64), (3, i64), (4, .bool), (5, (.int .u8)), (6, (.int .u8)), (9, .str), (10, .str), (11, .str), (12, (.int .u64)), (21, (.int .i32)), (22, (.sl .bool)), (26, (.sl (.int .u8))), (29, (.sl i64)), (33, (.sl (.st 1))), (34, (.st 1)), (35, (.st 1)), (38, (.sl (.st 1))), (39, (.st 1)), (40, (.st 1)), (47, (.sl (.sl (.st 0)))), (48, (.st 2)), (49, (.st 2)), (52, (.sl (.sl (.st 0)))), (53, (.st 2)), (54, (.st 2)), (62, (.sl (.st 0))), (63, (.st 0)), (64, (.st 0)), (89, (.sl (.st 0))), (100, (.sl (.st 1))), (101, (.st 1)), (102, (.st 1)), (110, (.st 0)), (121, (.sl .str)), (122, (.sl (.st 3))), (125, (.st 3)), (137, (.int .u32)), (138, (.int .u8)), (139, (.int .u8)), (142, (.int .i32)), (143, (.int .i32))]
def tyOf (t : Nat) : Option Ty := tyFind t tyTab
def lives (f i : Nat) : List Nat × List Nat :=
  bif Nat.beq f 16 && Nat.beq i 0 then ([0, 3, 4], [7]) else
  bif Nat.beq f 18 && Nat.beq i 0 then ([0, 1, 5], []) else
  bif Nat.beq f 20 && Nat.beq i 0 then ([0, 3], []) else
  bif Nat.beq f 21 && Nat.beq i 0 then ([0, 3, 4], [7]) else
  bif Nat.beq f 23 && Nat.beq i 0 then ([0, 1, 5], []) else
  bif Nat.beq f 61 && Nat.beq i 0 then ([0, 1, 5], []) else
  bif Nat.beq f 62 && Nat.beq i 0 then ([1, 3], [1]) else
  bif Nat.beq f 62 && Nat.beq i 2 then ([1, 3, 4], [1]) else
  bif Nat.beq f 63 && Nat.beq i 0 then ([2, 7, 8, 9], []) else
  bif Nat.beq f 64 && Nat.beq i 0 then ([0, 3, 4], [7]) else
  bif Nat.beq f 65 && Nat.beq i 0 then ([1, 18, 19, 20], [1]) else
  bif Nat.beq f 65 && Nat.beq i 2 then ([1, 4, 18, 19, 20, 24, 25, 26], [1]) else
  bif Nat.beq f 67 && Nat.beq i 0 then ([0, 1, 5], []) else
  bif Nat.beq f 80 && Nat.beq i 0 then ([1, 2, 6, 7, 8], [2, 10]) else
  bif Nat.beq f 81 && Nat.beq i 0 then ([0, 3, 4], [7]) else
  bif Nat.beq f 87 && Nat.beq i 0 then ([0, 1, 5], []) else
  bif Nat.beq f 91 && Nat.beq i 0 then ([0, 1, 7, 8], []) else
  bif Nat.beq f 100 && Nat.beq i 0 then ([0, 1, 7, 8], []) else
  ([], [])
def livesX (f i : Nat) : List Nat × List Nat :=
  bif Nat.beq f 16 && Nat.beq i 0 then ([3], [7]) else
  bif Nat.beq f 18 && Nat.beq i 0 then ([4], []) else
  bif Nat.beq f 20 && Nat.beq i 0 then ([0, 2], []) else
  bif Nat.beq f 21 && Nat.beq i 0 then ([3], [7]) else
  bif Nat.beq f 23 && Nat.beq i 0 then ([4], []) else
  bif Nat.beq f 61 && Nat.beq i 0 then ([1, 4], []) else
  bif Nat.beq f 62 && Nat.beq i 0 then ([2], []) else
  bif Nat.beq f 62 && Nat.beq i 2 then ([1, 2, 3], [1]) else
  bif Nat.beq f 63 && Nat.beq i 0 then ([6, 8], []) else
  bif Nat.beq f 64 && Nat.beq i 0 then ([3], [7]) else
  bif Nat.beq f 65 && Nat.beq i 0 then ([2], []) else
  bif Nat.beq f 65 && Nat.beq i 2 then ([1, 2, 18, 19, 20], [1]) else
  bif Nat.beq f 67 && Nat.beq i 0 then ([4], []) else
  bif Nat.beq f 80 && Nat.beq i 0 then ([6, 7], [10]) else
  bif Nat.beq f 81 && Nat.beq i 0 then ([3], [7]) else
  bif Nat.beq f 87 && Nat.beq i 0 then ([4], []) else
  bif Nat.beq f 91 && Nat.beq i 0 then ([4], []) else
  bif Nat.beq f 100 && Nat.beq i 0 then ([4], []) else
  ([], [])
theorem okP : OkP Try.prog := OkP.mk' (by kernel_rfl) (by kernel_rfl)
def f49.b' {R : Type} (L N : Nat) (k : Bool → Option R) (x0 : Int) (x1 : Int) (x2 : Int) : Option R :=
  bif (decide (x0 ≥ x1)) then
    k (decide (x0 ≤ x2))
  else k false
def f49.b {R : Type} (L N : Nat) (k : Bool → Option R) (x0 : Int) (x1 : Int) (x2 : Int) : Option R :=
  f49.b' L N k x0 x1 x2
def f49 (L N : Nat) (x0 : Int) (x1 : Int) (x2 : Int) : Option (Bool) := f49.b L N some x0 x1 x2
def f49.ent (L N : Nat) (args : List AV) (vw : View) (site : Nat) : Ans := match roD [i64, i64, i64] vw args with
  | some d => ⟨Bool, f49 L N d.1 d.2.1 d.2.2.1, fun y => ((.tv .bool y), [], [])⟩
  | none => Ans.no
noncomputable def E49 (L N : Nat) : Env := { P := Try.prog, ty := tyOf, Φ := noTells, inl := fun _ => false, live := lives, liveX := livesX, L := L }
theorem f49.b_pre {R : Type} (L N : Nat) (κ : AV → Option R) (x0 : Int) (x1 : Int) (x2 : Int) :
    evBody (E49 L N) (evCallI (E49 L N) 0 1000) 1000 49 Try.f49 [(.tv i64 x0), (.tv i64 x1), (.tv i64 x2)] [] [] (finC (.one .bool) κ)
    = f49.b' L N (fun a0 => κ (.tv .bool a0)) x0 x1 x2 := by kernel_rfl
theorem f49.b_eq {R : Type} (L N : Nat) (κ : AV → Option R) (x0 : Int) (x1 : Int) (x2 : Int) :
    evBody (E49 L N) (evCallI (E49 L N) 0 1000) 1000 49 Try.f49 [(.tv i64 x0), (.tv i64 x1), (.tv i64 x2)] [] [] (finC (.one .bool) κ)
    = f49.b L N (fun a0 => κ (.tv .bool a0)) x0 x1 x2 := by
  rw [f49.b_pre]
  unfold f49.b
  rfl
theorem f49.b'_nat {R R' : Type} (j : R → Option R') (L N : Nat) (k : Bool → Option R) (x0 : Int) (x1 : Int) (x2 : Int) :
    f49.b' L N (fun a0 => (k a0).bind j) x0 x1 x2 = (f49.b' L N k x0 x1 x2).bind j := by
  unfold f49.b'
  repeat' (first | (with_reducible refine cond_nat ?_ ?_) | (with_reducible refine bind_nat fun _ => ?_) | rfl)
theorem f49.b_nat {R R' : Type} (j : R → Option R') (L N : Nat) (k : Bool → Option R) (x0 : Int) (x1 : Int) (x2 : Int) :
    f49.b L N (fun a0 => (k a0).bind j) x0 x1 x2 = (f49.b L N k x0 x1 x2).bind j := by
  unfold f49.b
  exact f49.b'_nat ..
theorem f49.ok (L N : Nat) (hΦ : TellsOk Try.prog (noTells)) : EntOk Try.prog 49 (f49.ent L N) := by
  intro args vw site h
  unfold f49.ent
  split
  · rename_i d ha
    intro y hy hs
    refine call_ro (dep := 1000) (E := (E49 L N)) (rs := (.one .bool)) (v := (.tv .bool y)) (sound_of hΦ) okP (callI_sound (sound_of hΦ) okP 0 1000) (f := Try.f49) rfl hs ha ?_ rfl site
    refine (f49.b_eq L N some d.1 d.2.1 d.2.2.1).trans ?_
    refine ((f49.b_nat (fun y => (some (.tv .bool y) : Option AV)) L N some d.1 d.2.1 d.2.2.1)).trans ?_
    rw [show f49.b L N some d.1 d.2.1 d.2.2.1 = some y from hy]
    rfl
  · intro y hy
    cases hy
def Φ49 (L N : Nat) : Tells := (addT noTells 49 (f49.ent L N))
theorem Φ49_ok (L N : Nat) : TellsOk Try.prog (Φ49 L N) := addT_ok (no_ok _) (f49.ok L N (no_ok _))
def f46.b' {R : Type} (L N : Nat) (k : Bool → Option R) (x0 : Int) : Option R :=
  (f49 L N x0 (-4 : Int) (4 : Int)).bind fun y0 =>
  k y0
def f46.b {R : Type} (L N : Nat) (k : Bool → Option R) (x0 : Int) : Option R :=
  f46.b' L N k x0
def f46 (L N : Nat) (x0 : Int) : Option (Bool) := f46.b L N some x0
def f46.ent (L N : Nat) (args : List AV) (vw : View) (site : Nat) : Ans := match roD [i64] vw args with
  | some d => ⟨Bool, f46 L N d.1, fun y => ((.tv .bool y), [], [])⟩
  | none => Ans.no
noncomputable def E46 (L N : Nat) : Env := { P := Try.prog, ty := tyOf, Φ := (Φ49 L N), inl := fun _ => false, live := lives, liveX := livesX, L := L }
theorem f46.b_pre {R : Type} (L N : Nat) (κ : AV → Option R) (x0 : Int) :
    evBody (E46 L N) (evCallI (E46 L N) 0 1000) 1000 46 Try.f46 [(.tv i64 x0)] [] [] (finC (.one .bool) κ)
    = f46.b' L N (fun a0 => κ (.tv .bool a0)) x0 := by kernel_rfl
theorem f46.b_eq {R : Type} (L N : Nat) (κ : AV → Option R) (x0 : Int) :
    evBody (E46 L N) (evCallI (E46 L N) 0 1000) 1000 46 Try.f46 [(.tv i64 x0)] [] [] (finC (.one .bool) κ)
    = f46.b L N (fun a0 => κ (.tv .bool a0)) x0 := by
  rw [f46.b_pre]
  unfold f46.b
  rfl
theorem f46.b'_nat {R R' : Type} (j : R → Option R') (L N : Nat) (k : Bool → Option R) (x0 : Int) :
    f46.b' L N (fun a0 => (k a0).bind j) x0 = (f46.b' L N k x0).bind j := by
  unfold f46.b'
  repeat' (first | (with_reducible refine cond_nat ?_ ?_) | (with_reducible refine bind_nat fun _ => ?_) | rfl)
theorem f46.b_nat {R R' : Type} (j : R → Option R') (L N : Nat) (k : Bool → Option R) (x0 : Int) :
    f46.b L N (fun a0 => (k a0).bind j) x0 = (f46.b L N k x0).bind j := by
  unfold f46.b
  exact f46.b'_nat ..
theorem f46.ok (L N : Nat) (hΦ : TellsOk Try.prog ((Φ49 L N))) : EntOk Try.prog 46 (f46.ent L N) := by
  intro args vw site h
  unfold f46.ent
  split
  · rename_i d ha
    intro y hy hs
    refine call_ro (dep := 1000) (E := (E46 L N)) (rs := (.one .bool)) (v := (.tv .bool y)) (sound_of hΦ) okP (callI_sound (sound_of hΦ) okP 0 1000) (f := Try.f46) rfl hs ha ?_ rfl site
    refine (f46.b_eq L N some d.1).trans ?_
    refine ((f46.b_nat (fun y => (some (.tv .bool y) : Option AV)) L N some d.1)).trans ?_
    rw [show f46.b L N some d.1 = some y from hy]
    rfl
  · intro y hy
    cases hy
def Φ46 (L N : Nat) : Tells := (addT (Φ49 L N) 46 (f46.ent L N))
theorem Φ46_ok (L N : Nat) : TellsOk Try.prog (Φ46 L N) := addT_ok (Φ49_ok L N) (f46.ok L N (Φ49_ok L N))
def f20.s0' {R : Type} (L N : Nat) (k0_e0 : (List Int) → Option R) (k0_r : (List Int) → Bool → Option R) (rec0 : (List Int) → Int → Option R) (s0 : (List Int)) (s1 : Int) : Option R :=
  bif (decide (s1 < (s0.length : Int))) then
    bif (decide (0 ≤ s1) && decide (s1 < (s0.length : Int))) then
      (f46 L N (listAt s0 (0 : Int) s1.toNat)).bind fun y3 =>
      bif (!y3) then
        k0_r s0 false
      else bif (decide (0 ≤ s1) && decide (s1 < (s0.length : Int))) then
        bif ((listAt s0 (0 : Int) s1.toNat) == (0 : Int)) then
          k0_r s0 false
        else rec0 s0 (wi (s1 + (1 : Int)))
      else none
    else none
  else k0_e0 s0
def f20.s0 {R : Type} (L N : Nat) (k0_e0 : (List Int) → Option R) (k0_r : (List Int) → Bool → Option R) (rec0 : (List Int) → Int → Option R) (s0 : (List Int)) (s1 : Int) : Option R :=
  f20.s0' L N k0_e0 k0_r rec0 s0 s1
def f20.l0 {R : Type} (L N : Nat) (k0_e0 : (List Int) → Option R) (k0_r : (List Int) → Bool → Option R) : Nat → (List Int) → Int → Option R
  | 0, _, _ => none
  | n + 1, s0, s1 => f20.s0 L N k0_e0 k0_r (f20.l0 L N k0_e0 k0_r n) s0 s1
def f20.T0 (s0 : (List Int)) (s1 : Int) : T := mkT 26 [(0, (.tv (.sl i64) s0)), (3, (.tv i64 s1))]
def f20.H0 (s0 : (List Int)) (s1 : Int) : H := []
def f20.T0_e0 (z2 : (List Int)) : T := mkT 26 [(0, (.tv (.sl i64) z2))]
def f20.H0_e0 (z2 : (List Int)) : H := []
def f20.T0_r (z7 : (List Int)) (z8 : Bool) : T := mkT 26 [(0, (.tv (.sl i64) z7)), (2, (.tv .bool z8))]
def f20.H0_r (z7 : (List Int)) (z8 : Bool) : H := []
def f20.p0_e0' {R : Type} (L N : Nat) (k : Bool → Option R) (z2 : (List Int)) : Option R :=
  k (decide ((z2.length : Int) ≤ (20 : Int)))
def f20.p0_e0 {R : Type} (L N : Nat) (k : Bool → Option R) (z2 : (List Int)) : Option R :=
  f20.p0_e0' L N k z2
def f20.p0_r' {R : Type} (L N : Nat) (k : Bool → Option R) (z7 : (List Int)) (z8 : Bool) : Option R :=
  k z8
def f20.p0_r {R : Type} (L N : Nat) (k : Bool → Option R) (z7 : (List Int)) (z8 : Bool) : Option R :=
  f20.p0_r' L N k z7 z8
def f20.b' {R : Type} (L N : Nat) (k : Bool → Option R) (w0 : (List Int) → Int → Option R) (x0 : (List Int)) : Option R :=
  w0 x0 (0 : Int)
def f20.b {R : Type} (L N : Nat) (k : Bool → Option R) (x0 : (List Int)) : Option R :=
  f20.b' L N k (fun s0 s1 => f20.l0 L N (fun z2 => f20.p0_e0 L N k z2) (fun z7 z8 => f20.p0_r L N k z7 z8) L s0 s1) x0
def f20 (L N : Nat) (x0 : (List Int)) : Option (Bool) := f20.b L N some x0
def f20.ent (L N : Nat) (args : List AV) (vw : View) (site : Nat) : Ans := match roD [(.sl i64)] vw args with
  | some d => ⟨Bool, f20 L N d.1, fun y => ((.tv .bool y), [], [])⟩
  | none => Ans.no
noncomputable def E20 (L N : Nat) : Env := { P := Try.prog, ty := tyOf, Φ := (Φ46 L N), inl := fun _ => false, live := lives, liveX := livesX, L := L }
noncomputable def f20.c0 : Code := loopAt 0 (codeOf Try.f20)
theorem f20.s0_pre {R : Type} (L N : Nat) (κ : Ex → T → H → Option R) (rec : T → H → Option R) (s0 : (List Int)) (s1 : Int) :
    evRd (E20 L N) (evCallI (E20 L N) 0 1000) 1000 20 26 0 f20.c0 κ rec (f20.T0 s0 s1) (f20.H0 s0 s1)
    = f20.s0' L N (fun z2 => κ (.exit 0) (f20.T0_e0 z2) (f20.H0_e0 z2)) (fun z7 z8 => κ .ret (f20.T0_r z7 z8) (f20.H0_r z7 z8)) (fun s0 s1 => rec (f20.T0 s0 s1) (f20.H0 s0 s1)) s0 s1 := by kernel_rfl
theorem f20.s0_eq {R : Type} (L N : Nat) (κ : Ex → T → H → Option R) (rec : T → H → Option R) (s0 : (List Int)) (s1 : Int) :
    evRd (E20 L N) (evCallI (E20 L N) 0 1000) 1000 20 26 0 f20.c0 κ rec (f20.T0 s0 s1) (f20.H0 s0 s1)
    = f20.s0 L N (fun z2 => κ (.exit 0) (f20.T0_e0 z2) (f20.H0_e0 z2)) (fun z7 z8 => κ .ret (f20.T0_r z7 z8) (f20.H0_r z7 z8)) (fun s0 s1 => rec (f20.T0 s0 s1) (f20.H0 s0 s1)) s0 s1 := by
  rw [f20.s0_pre]
  unfold f20.s0
  rfl
theorem f20.l0_eq {R : Type} (L N : Nat) (κ : Ex → T → H → Option R) : ∀ (n : Nat) (s0 : (List Int)) (s1 : Int),
    evLp (E20 L N) (evCallI (E20 L N) 0 1000) 1000 20 26 0 f20.c0 κ n (f20.T0 s0 s1) (f20.H0 s0 s1)
    = f20.l0 L N (fun z2 => κ (.exit 0) (f20.T0_e0 z2) (f20.H0_e0 z2)) (fun z7 z8 => κ .ret (f20.T0_r z7 z8) (f20.H0_r z7 z8)) n s0 s1 := by
  intro n
  induction n with
  | zero => intros; rfl
  | succ n ih =>
    intro s0 s1
    rw [evLp_succ, f20.s0_eq]
    simp only [ih]
    rfl
theorem f20.p0_e0_pre {R : Type} (L N : Nat) (κ : AV → Option R) (z2 : (List Int)) :
    (contAt (E20 L N) (evCallI (E20 L N) 0 1000) 1000 20 26 0 (codeOf Try.f20) (finK (E20 L N) 1000 Try.f20 (finC (.one .bool) κ))) (.exit 0) (f20.T0_e0 z2) (f20.H0_e0 z2)
    = f20.p0_e0' L N (fun a0 => κ (.tv .bool a0)) z2 := by kernel_rfl
theorem f20.p0_e0_eq {R : Type} (L N : Nat) (κ : AV → Option R) (z2 : (List Int)) :
    (contAt (E20 L N) (evCallI (E20 L N) 0 1000) 1000 20 26 0 (codeOf Try.f20) (finK (E20 L N) 1000 Try.f20 (finC (.one .bool) κ))) (.exit 0) (f20.T0_e0 z2) (f20.H0_e0 z2)
    = f20.p0_e0 L N (fun a0 => κ (.tv .bool a0)) z2 := by
  rw [f20.p0_e0_pre]
  unfold f20.p0_e0
  rfl
theorem f20.p0_r_pre {R : Type} (L N : Nat) (κ : AV → Option R) (z7 : (List Int)) (z8 : Bool) :
    (contAt (E20 L N) (evCallI (E20 L N) 0 1000) 1000 20 26 0 (codeOf Try.f20) (finK (E20 L N) 1000 Try.f20 (finC (.one .bool) κ))) .ret (f20.T0_r z7 z8) (f20.H0_r z7 z8)
    = f20.p0_r' L N (fun a0 => κ (.tv .bool a0)) z7 z8 := by kernel_rfl
theorem f20.p0_r_eq {R : Type} (L N : Nat) (κ : AV → Option R) (z7 : (List Int)) (z8 : Bool) :
    (contAt (E20 L N) (evCallI (E20 L N) 0 1000) 1000 20 26 0 (codeOf Try.f20) (finK (E20 L N) 1000 Try.f20 (finC (.one .bool) κ))) .ret (f20.T0_r z7 z8) (f20.H0_r z7 z8)
    = f20.p0_r L N (fun a0 => κ (.tv .bool a0)) z7 z8 := by
  rw [f20.p0_r_pre]
  unfold f20.p0_r
  rfl
theorem f20.b_pre {R : Type} (L N : Nat) (κ : AV → Option R) (x0 : (List Int)) :
    evBody (E20 L N) (evCallI (E20 L N) 0 1000) 1000 20 Try.f20 [(.tv (.sl i64) x0)] [] [] (finC (.one .bool) κ)
    = f20.b' L N (fun a0 => κ (.tv .bool a0)) (fun s0 s1 => evLp (E20 L N) (evCallI (E20 L N) 0 1000) 1000 20 26 0 f20.c0 (contAt (E20 L N) (evCallI (E20 L N) 0 1000) 1000 20 26 0 (codeOf Try.f20) (finK (E20 L N) 1000 Try.f20 (finC (.one .bool) κ))) L (f20.T0 s0 s1) (f20.H0 s0 s1)) x0 := by kernel_rfl
theorem f20.b_eq {R : Type} (L N : Nat) (κ : AV → Option R) (x0 : (List Int)) :
    evBody (E20 L N) (evCallI (E20 L N) 0 1000) 1000 20 Try.f20 [(.tv (.sl i64) x0)] [] [] (finC (.one .bool) κ)
    = f20.b L N (fun a0 => κ (.tv .bool a0)) x0 := by
  rw [f20.b_pre]
  unfold f20.b
  simp only [f20.l0_eq, f20.p0_e0_eq, f20.p0_r_eq]
theorem f20.s0'_nat {R R' : Type} (j : R → Option R') (L N : Nat) (k0_e0 : (List Int) → Option R) (k0_r : (List Int) → Bool → Option R) (rec0 : (List Int) → Int → Option R) (s0 : (List Int)) (s1 : Int) :
    f20.s0' L N (fun a0 => (k0_e0 a0).bind j) (fun a0 a1 => (k0_r a0 a1).bind j) (fun a0 a1 => (rec0 a0 a1).bind j) s0 s1 = (f20.s0' L N k0_e0 k0_r rec0 s0 s1).bind j := by
  unfold f20.s0'
  repeat' (first | (with_reducible refine cond_nat ?_ ?_) | (with_reducible refine bind_nat fun _ => ?_) | rfl)
theorem f20.s0_nat {R R' : Type} (j : R → Option R') (L N : Nat) (k0_e0 : (List Int) → Option R) (k0_r : (List Int) → Bool → Option R) (rec0 : (List Int) → Int → Option R) (s0 : (List Int)) (s1 : Int) :
    f20.s0 L N (fun a0 => (k0_e0 a0).bind j) (fun a0 a1 => (k0_r a0 a1).bind j) (fun a0 a1 => (rec0 a0 a1).bind j) s0 s1 = (f20.s0 L N k0_e0 k0_r rec0 s0 s1).bind j := by
  unfold f20.s0
  exact f20.s0'_nat ..
theorem f20.l0_nat {R R' : Type} (j : R → Option R') (L N : Nat) (k0_e0 : (List Int) → Option R) (k0_r : (List Int) → Bool → Option R) : ∀ (n : Nat) (s0 : (List Int)) (s1 : Int),
    f20.l0 L N (fun a0 => (k0_e0 a0).bind j) (fun a0 a1 => (k0_r a0 a1).bind j) n s0 s1 = (f20.l0 L N k0_e0 k0_r n s0 s1).bind j := by
  intro n
  induction n with
  | zero => intros; rfl
  | succ n ih =>
    intro s0 s1
    show f20.s0 L N (fun a0 => (k0_e0 a0).bind j) (fun a0 a1 => (k0_r a0 a1).bind j) (f20.l0 L N (fun a0 => (k0_e0 a0).bind j) (fun a0 a1 => (k0_r a0 a1).bind j) n) s0 s1 = _
    rw [show f20.l0 L N (fun a0 => (k0_e0 a0).bind j) (fun a0 a1 => (k0_r a0 a1).bind j) n = (fun s0 s1 => (f20.l0 L N k0_e0 k0_r n s0 s1).bind j) from funext fun s0 => funext fun s1 => ih s0 s1]
    exact f20.s0_nat ..
theorem f20.p0_e0'_nat {R R' : Type} (j : R → Option R') (L N : Nat) (k : Bool → Option R) (z2 : (List Int)) :
    f20.p0_e0' L N (fun a0 => (k a0).bind j) z2 = (f20.p0_e0' L N k z2).bind j := by
  unfold f20.p0_e0'
  repeat' (first | (with_reducible refine cond_nat ?_ ?_) | (with_reducible refine bind_nat fun _ => ?_) | rfl)
theorem f20.p0_e0_nat {R R' : Type} (j : R → Option R') (L N : Nat) (k : Bool → Option R) (z2 : (List Int)) :
    f20.p0_e0 L N (fun a0 => (k a0).bind j) z2 = (f20.p0_e0 L N k z2).bind j := by
  unfold f20.p0_e0
  exact f20.p0_e0'_nat ..
theorem f20.p0_r'_nat {R R' : Type} (j : R → Option R') (L N : Nat) (k : Bool → Option R) (z7 : (List Int)) (z8 : Bool) :
    f20.p0_r' L N (fun a0 => (k a0).bind j) z7 z8 = (f20.p0_r' L N k z7 z8).bind j := by
  unfold f20.p0_r'
  repeat' (first | (with_reducible refine cond_nat ?_ ?_) | (with_reducible refine bind_nat fun _ => ?_) | rfl)
theorem f20.p0_r_nat {R R' : Type} (j : R → Option R') (L N : Nat) (k : Bool → Option R) (z7 : (List Int)) (z8 : Bool) :
    f20.p0_r L N (fun a0 => (k a0).bind j) z7 z8 = (f20.p0_r L N k z7 z8).bind j := by
  unfold f20.p0_r
  exact f20.p0_r'_nat ..
theorem f20.b'_nat {R R' : Type} (j : R → Option R') (L N : Nat) (k : Bool → Option R) (w0 : (List Int) → Int → Option R) (x0 : (List Int)) :
    f20.b' L N (fun a0 => (k a0).bind j) (fun a0 a1 => (w0 a0 a1).bind j) x0 = (f20.b' L N k w0 x0).bind j := by
  unfold f20.b'
  repeat' (first | (with_reducible refine cond_nat ?_ ?_) | (with_reducible refine bind_nat fun _ => ?_) | rfl)
theorem f20.b_nat {R R' : Type} (j : R → Option R') (L N : Nat) (k : Bool → Option R) (x0 : (List Int)) :
    f20.b L N (fun a0 => (k a0).bind j) x0 = (f20.b L N k x0).bind j := by
  unfold f20.b
  simp only [f20.l0_nat, f20.p0_e0_nat, f20.p0_r_nat]
  exact f20.b'_nat ..
theorem f20.ok (L N : Nat) (hΦ : TellsOk Try.prog ((Φ46 L N))) : EntOk Try.prog 20 (f20.ent L N) := by
  intro args vw site h
  unfold f20.ent
  split
  · rename_i d ha
    intro y hy hs
    refine call_ro (dep := 1000) (E := (E20 L N)) (rs := (.one .bool)) (v := (.tv .bool y)) (sound_of hΦ) okP (callI_sound (sound_of hΦ) okP 0 1000) (f := Try.f20) rfl hs ha ?_ rfl site
    refine (f20.b_eq L N some d.1).trans ?_
    refine ((f20.b_nat (fun y => (some (.tv .bool y) : Option AV)) L N some d.1)).trans ?_
    rw [show f20.b L N some d.1 = some y from hy]
    rfl
  · intro y hy
    cases hy
def Φ20 (L N : Nat) : Tells := (addT (Φ46 L N) 20 (f20.ent L N))
theorem Φ20_ok (L N : Nat) : TellsOk Try.prog (Φ20 L N) := addT_ok (Φ46_ok L N) (f20.ok L N (Φ46_ok L N))
def f21.s0' {R : Type} (L N : Nat) (k0_e0 : (List Int) → Option R) (rec0 : (List Int) → Int → (List Int) → Option R) (s0 : (List Int)) (s1 : Int) (s2 : (List Int)) : Option R :=
  bif (decide (s1 < (s0.length : Int))) then
    bif (decide (0 ≤ s1) && decide (s1 < (s0.length : Int))) then
      bif (decide (0 ≤ s1) && decide (s1 < (s2.length : Int))) then
        rec0 s0 (wi (s1 + (1 : Int))) (s2.set s1.toNat (listAt s0 (0 : Int) s1.toNat))
      else none
    else none
  else k0_e0 s2
def f21.s0 {R : Type} (L N : Nat) (k0_e0 : (List Int) → Option R) (rec0 : (List Int) → Int → (List Int) → Option R) (s0 : (List Int)) (s1 : Int) (s2 : (List Int)) : Option R :=
  f21.s0' L N k0_e0 rec0 s0 s1 s2
def f21.l0 {R : Type} (L N : Nat) (k0_e0 : (List Int) → Option R) : Nat → (List Int) → Int → (List Int) → Option R
  | 0, _, _, _ => none
  | n + 1, s0, s1, s2 => f21.s0 L N k0_e0 (f21.l0 L N k0_e0 n) s0 s1 s2
def f21.T0 (s0 : (List Int)) (s1 : Int) (s2 : (List Int)) : T := mkT 22 [(0, (.tv (.sl i64) s0)), (3, (.row 1007)), (4, (.tv i64 s1))]
def f21.H0 (s0 : (List Int)) (s1 : Int) (s2 : (List Int)) : H := [(1007, (.row 3 i64 s2))]
def f21.T0_e0 (z3 : (List Int)) : T := mkT 22 [(3, (.row 1007))]
def f21.H0_e0 (z3 : (List Int)) : H := [(1007, (.row 3 i64 z3))]
def f21.p0_e0' {R : Type} (L N : Nat) (k : (List Int) → Option R) (z3 : (List Int)) : Option R :=
  k z3
def f21.p0_e0 {R : Type} (L N : Nat) (k : (List Int) → Option R) (z3 : (List Int)) : Option R :=
  f21.p0_e0' L N k z3
def f21.b' {R : Type} (L N : Nat) (k : (List Int) → Option R) (w0 : (List Int) → Int → (List Int) → Option R) (x0 : (List Int)) : Option R :=
  bif (decide (0 ≤ (x0.length : Int)) && decide ((x0.length : Int) ≤ (lim : Int))) then
    w0 x0 (0 : Int) (List.replicate (x0.length : Int).toNat (0 : Int))
  else none
def f21.b {R : Type} (L N : Nat) (k : (List Int) → Option R) (x0 : (List Int)) : Option R :=
  f21.b' L N k (fun s0 s1 s2 => f21.l0 L N (fun z3 => f21.p0_e0 L N k z3) L s0 s1 s2) x0
def f21 (L N : Nat) (x0 : (List Int)) : Option ((List Int)) := f21.b L N some x0
def f21.ent (L N : Nat) (args : List AV) (vw : View) (site : Nat) : Ans := match coeD [(.sl i64)] vw args with
  | some (d, u) => ⟨(List Int), f21 L N d.1, fun y => ((.tv (.sl i64) y), u, [])⟩
  | none => Ans.no
noncomputable def E21 (L N : Nat) : Env := { P := Try.prog, ty := tyOf, Φ := (Φ20 L N), inl := fun _ => false, live := lives, liveX := livesX, L := L }
noncomputable def f21.c0 : Code := loopAt 0 (codeOf Try.f21)
theorem f21.s0_pre {R : Type} (L N : Nat) (κ : Ex → T → H → Option R) (rec : T → H → Option R) (s0 : (List Int)) (s1 : Int) (s2 : (List Int)) :
    evRd (E21 L N) (evCallI (E21 L N) 0 1000) 1000 21 22 0 f21.c0 κ rec (f21.T0 s0 s1 s2) (f21.H0 s0 s1 s2)
    = f21.s0' L N (fun z3 => κ (.exit 0) (f21.T0_e0 z3) (f21.H0_e0 z3)) (fun s0 s1 s2 => rec (f21.T0 s0 s1 s2) (f21.H0 s0 s1 s2)) s0 s1 s2 := by kernel_rfl
theorem f21.s0_eq {R : Type} (L N : Nat) (κ : Ex → T → H → Option R) (rec : T → H → Option R) (s0 : (List Int)) (s1 : Int) (s2 : (List Int)) :
    evRd (E21 L N) (evCallI (E21 L N) 0 1000) 1000 21 22 0 f21.c0 κ rec (f21.T0 s0 s1 s2) (f21.H0 s0 s1 s2)
    = f21.s0 L N (fun z3 => κ (.exit 0) (f21.T0_e0 z3) (f21.H0_e0 z3)) (fun s0 s1 s2 => rec (f21.T0 s0 s1 s2) (f21.H0 s0 s1 s2)) s0 s1 s2 := by
  rw [f21.s0_pre]
  unfold f21.s0
  rfl
theorem f21.l0_eq {R : Type} (L N : Nat) (κ : Ex → T → H → Option R) : ∀ (n : Nat) (s0 : (List Int)) (s1 : Int) (s2 : (List Int)),
    evLp (E21 L N) (evCallI (E21 L N) 0 1000) 1000 21 22 0 f21.c0 κ n (f21.T0 s0 s1 s2) (f21.H0 s0 s1 s2)
    = f21.l0 L N (fun z3 => κ (.exit 0) (f21.T0_e0 z3) (f21.H0_e0 z3)) n s0 s1 s2 := by
  intro n
  induction n with
  | zero => intros; rfl
  | succ n ih =>
    intro s0 s1 s2
    rw [evLp_succ, f21.s0_eq]
    simp only [ih]
    rfl
theorem f21.p0_e0_pre {R : Type} (L N : Nat) (κ : AV → Option R) (z3 : (List Int)) :
    (contAt (E21 L N) (evCallI (E21 L N) 0 1000) 1000 21 22 0 (codeOf Try.f21) (finK (E21 L N) 1000 Try.f21 (finC (.one (.sl i64)) κ))) (.exit 0) (f21.T0_e0 z3) (f21.H0_e0 z3)
    = f21.p0_e0' L N (fun a0 => κ (.tv (.sl i64) a0)) z3 := by kernel_rfl
theorem f21.p0_e0_eq {R : Type} (L N : Nat) (κ : AV → Option R) (z3 : (List Int)) :
    (contAt (E21 L N) (evCallI (E21 L N) 0 1000) 1000 21 22 0 (codeOf Try.f21) (finK (E21 L N) 1000 Try.f21 (finC (.one (.sl i64)) κ))) (.exit 0) (f21.T0_e0 z3) (f21.H0_e0 z3)
    = f21.p0_e0 L N (fun a0 => κ (.tv (.sl i64) a0)) z3 := by
  rw [f21.p0_e0_pre]
  unfold f21.p0_e0
  rfl
theorem f21.b_pre {R : Type} (L N : Nat) (κ : AV → Option R) (x0 : (List Int)) :
    evBody (E21 L N) (evCallI (E21 L N) 0 1000) 1000 21 Try.f21 [(.tv (.sl i64) x0)] [] [] (finC (.one (.sl i64)) κ)
    = f21.b' L N (fun a0 => κ (.tv (.sl i64) a0)) (fun s0 s1 s2 => evLp (E21 L N) (evCallI (E21 L N) 0 1000) 1000 21 22 0 f21.c0 (contAt (E21 L N) (evCallI (E21 L N) 0 1000) 1000 21 22 0 (codeOf Try.f21) (finK (E21 L N) 1000 Try.f21 (finC (.one (.sl i64)) κ))) L (f21.T0 s0 s1 s2) (f21.H0 s0 s1 s2)) x0 := by kernel_rfl
theorem f21.b_eq {R : Type} (L N : Nat) (κ : AV → Option R) (x0 : (List Int)) :
    evBody (E21 L N) (evCallI (E21 L N) 0 1000) 1000 21 Try.f21 [(.tv (.sl i64) x0)] [] [] (finC (.one (.sl i64)) κ)
    = f21.b L N (fun a0 => κ (.tv (.sl i64) a0)) x0 := by
  rw [f21.b_pre]
  unfold f21.b
  simp only [f21.l0_eq, f21.p0_e0_eq]
theorem f21.s0'_nat {R R' : Type} (j : R → Option R') (L N : Nat) (k0_e0 : (List Int) → Option R) (rec0 : (List Int) → Int → (List Int) → Option R) (s0 : (List Int)) (s1 : Int) (s2 : (List Int)) :
    f21.s0' L N (fun a0 => (k0_e0 a0).bind j) (fun a0 a1 a2 => (rec0 a0 a1 a2).bind j) s0 s1 s2 = (f21.s0' L N k0_e0 rec0 s0 s1 s2).bind j := by
  unfold f21.s0'
  repeat' (first | (with_reducible refine cond_nat ?_ ?_) | (with_reducible refine bind_nat fun _ => ?_) | rfl)
theorem f21.s0_nat {R R' : Type} (j : R → Option R') (L N : Nat) (k0_e0 : (List Int) → Option R) (rec0 : (List Int) → Int → (List Int) → Option R) (s0 : (List Int)) (s1 : Int) (s2 : (List Int)) :
    f21.s0 L N (fun a0 => (k0_e0 a0).bind j) (fun a0 a1 a2 => (rec0 a0 a1 a2).bind j) s0 s1 s2 = (f21.s0 L N k0_e0 rec0 s0 s1 s2).bind j := by
  unfold f21.s0
  exact f21.s0'_nat ..
theorem f21.l0_nat {R R' : Type} (j : R → Option R') (L N : Nat) (k0_e0 : (List Int) → Option R) : ∀ (n : Nat) (s0 : (List Int)) (s1 : Int) (s2 : (List Int)),
    f21.l0 L N (fun a0 => (k0_e0 a0).bind j) n s0 s1 s2 = (f21.l0 L N k0_e0 n s0 s1 s2).bind j := by
  intro n
  induction n with
  | zero => intros; rfl
  | succ n ih =>
    intro s0 s1 s2
    show f21.s0 L N (fun a0 => (k0_e0 a0).bind j) (f21.l0 L N (fun a0 => (k0_e0 a0).bind j) n) s0 s1 s2 = _
    rw [show f21.l0 L N (fun a0 => (k0_e0 a0).bind j) n = (fun s0 s1 s2 => (f21.l0 L N k0_e0 n s0 s1 s2).bind j) from funext fun s0 => funext fun s1 => funext fun s2 => ih s0 s1 s2]
    exact f21.s0_nat ..
theorem f21.p0_e0'_nat {R R' : Type} (j : R → Option R') (L N : Nat) (k : (List Int) → Option R) (z3 : (List Int)) :
    f21.p0_e0' L N (fun a0 => (k a0).bind j) z3 = (f21.p0_e0' L N k z3).bind j := by
  unfold f21.p0_e0'
  repeat' (first | (with_reducible refine cond_nat ?_ ?_) | (with_reducible refine bind_nat fun _ => ?_) | rfl)
theorem f21.p0_e0_nat {R R' : Type} (j : R → Option R') (L N : Nat) (k : (List Int) → Option R) (z3 : (List Int)) :
    f21.p0_e0 L N (fun a0 => (k a0).bind j) z3 = (f21.p0_e0 L N k z3).bind j := by
  unfold f21.p0_e0
  exact f21.p0_e0'_nat ..
theorem f21.b'_nat {R R' : Type} (j : R → Option R') (L N : Nat) (k : (List Int) → Option R) (w0 : (List Int) → Int → (List Int) → Option R) (x0 : (List Int)) :
    f21.b' L N (fun a0 => (k a0).bind j) (fun a0 a1 a2 => (w0 a0 a1 a2).bind j) x0 = (f21.b' L N k w0 x0).bind j := by
  unfold f21.b'
  repeat' (first | (with_reducible refine cond_nat ?_ ?_) | (with_reducible refine bind_nat fun _ => ?_) | rfl)
theorem f21.b_nat {R R' : Type} (j : R → Option R') (L N : Nat) (k : (List Int) → Option R) (x0 : (List Int)) :
    f21.b L N (fun a0 => (k a0).bind j) x0 = (f21.b L N k x0).bind j := by
  unfold f21.b
  simp only [f21.l0_nat, f21.p0_e0_nat]
  exact f21.b'_nat ..
theorem f21.ok (L N : Nat) (hΦ : TellsOk Try.prog ((Φ20 L N))) : EntOk Try.prog 21 (f21.ent L N) := by
  intro args vw site h
  unfold f21.ent
  split
  · rename_i d u ha
    intro y hy hs
    refine call_data (dep := 1000) (E := (E21 L N)) (rs := (.one (.sl i64))) (v' := (.tv (.sl i64) y)) (sound_of hΦ) okP (callI_sound (sound_of hΦ) okP 0 1000) (f := Try.f21) rfl hs ha ?_ site
    refine (f21.b_eq L N some d.1).trans ?_
    refine ((f21.b_nat (fun y => (some (.tv (.sl i64) y) : Option AV)) L N some d.1)).trans ?_
    rw [show f21.b L N some d.1 = some y from hy]
    rfl
  · intro y hy
    cases hy
def Φ21 (L N : Nat) : Tells := (addT (Φ20 L N) 21 (f21.ent L N))
theorem Φ21_ok (L N : Nat) : TellsOk Try.prog (Φ21 L N) := addT_ok (Φ20_ok L N) (f21.ok L N (Φ20_ok L N))
def f74.b' {R : Type} (L N : Nat) (k : Bool → Option R) (x0 : Int) : Option R :=
  bif (decide (x0 ≥ (-4 : Int))) then
    k (decide (x0 ≤ (4 : Int)))
  else k false
def f74.b {R : Type} (L N : Nat) (k : Bool → Option R) (x0 : Int) : Option R :=
  f74.b' L N k x0
def f74 (L N : Nat) (x0 : Int) : Option (Bool) := f74.b L N some x0
def f74.ent (L N : Nat) (args : List AV) (vw : View) (site : Nat) : Ans := match roD [i64] vw args with
  | some d => ⟨Bool, f74 L N d.1, fun y => ((.tv .bool y), [], [])⟩
  | none => Ans.no
noncomputable def E74 (L N : Nat) : Env := { P := Try.prog, ty := tyOf, Φ := (Φ21 L N), inl := fun _ => false, live := lives, liveX := livesX, L := L }
theorem f74.b_pre {R : Type} (L N : Nat) (κ : AV → Option R) (x0 : Int) :
    evBody (E74 L N) (evCallI (E74 L N) 0 1000) 1000 74 Try.f74 [(.tv i64 x0)] [] [] (finC (.one .bool) κ)
    = f74.b' L N (fun a0 => κ (.tv .bool a0)) x0 := by kernel_rfl
theorem f74.b_eq {R : Type} (L N : Nat) (κ : AV → Option R) (x0 : Int) :
    evBody (E74 L N) (evCallI (E74 L N) 0 1000) 1000 74 Try.f74 [(.tv i64 x0)] [] [] (finC (.one .bool) κ)
    = f74.b L N (fun a0 => κ (.tv .bool a0)) x0 := by
  rw [f74.b_pre]
  unfold f74.b
  rfl
theorem f74.b'_nat {R R' : Type} (j : R → Option R') (L N : Nat) (k : Bool → Option R) (x0 : Int) :
    f74.b' L N (fun a0 => (k a0).bind j) x0 = (f74.b' L N k x0).bind j := by
  unfold f74.b'
  repeat' (first | (with_reducible refine cond_nat ?_ ?_) | (with_reducible refine bind_nat fun _ => ?_) | rfl)
theorem f74.b_nat {R R' : Type} (j : R → Option R') (L N : Nat) (k : Bool → Option R) (x0 : Int) :
    f74.b L N (fun a0 => (k a0).bind j) x0 = (f74.b L N k x0).bind j := by
  unfold f74.b
  exact f74.b'_nat ..
theorem f74.ok (L N : Nat) (hΦ : TellsOk Try.prog ((Φ21 L N))) : EntOk Try.prog 74 (f74.ent L N) := by
  intro args vw site h
  unfold f74.ent
  split
  · rename_i d ha
    intro y hy hs
    refine call_ro (dep := 1000) (E := (E74 L N)) (rs := (.one .bool)) (v := (.tv .bool y)) (sound_of hΦ) okP (callI_sound (sound_of hΦ) okP 0 1000) (f := Try.f74) rfl hs ha ?_ rfl site
    refine (f74.b_eq L N some d.1).trans ?_
    refine ((f74.b_nat (fun y => (some (.tv .bool y) : Option AV)) L N some d.1)).trans ?_
    rw [show f74.b L N some d.1 = some y from hy]
    rfl
  · intro y hy
    cases hy
def Φ74 (L N : Nat) : Tells := (addT (Φ21 L N) 74 (f74.ent L N))
theorem Φ74_ok (L N : Nat) : TellsOk Try.prog (Φ74 L N) := addT_ok (Φ21_ok L N) (f74.ok L N (Φ21_ok L N))
def f73.b' {R : Type} (L N : Nat) (k : Bool → Option R) (x0 : Int) : Option R :=
  (f74 L N x0).bind fun y0 =>
  bif y0 then
    k (x0 != (0 : Int))
  else k false
def f73.b {R : Type} (L N : Nat) (k : Bool → Option R) (x0 : Int) : Option R :=
  f73.b' L N k x0
def f73 (L N : Nat) (x0 : Int) : Option (Bool) := f73.b L N some x0
def f73.ent (L N : Nat) (args : List AV) (vw : View) (site : Nat) : Ans := match roD [i64] vw args with
  | some d => ⟨Bool, f73 L N d.1, fun y => ((.tv .bool y), [], [])⟩
  | none => Ans.no
noncomputable def E73 (L N : Nat) : Env := { P := Try.prog, ty := tyOf, Φ := (Φ74 L N), inl := fun _ => false, live := lives, liveX := livesX, L := L }
theorem f73.b_pre {R : Type} (L N : Nat) (κ : AV → Option R) (x0 : Int) :
    evBody (E73 L N) (evCallI (E73 L N) 0 1000) 1000 73 Try.f73 [(.tv i64 x0)] [] [] (finC (.one .bool) κ)
    = f73.b' L N (fun a0 => κ (.tv .bool a0)) x0 := by kernel_rfl
theorem f73.b_eq {R : Type} (L N : Nat) (κ : AV → Option R) (x0 : Int) :
    evBody (E73 L N) (evCallI (E73 L N) 0 1000) 1000 73 Try.f73 [(.tv i64 x0)] [] [] (finC (.one .bool) κ)
    = f73.b L N (fun a0 => κ (.tv .bool a0)) x0 := by
  rw [f73.b_pre]
  unfold f73.b
  rfl
theorem f73.b'_nat {R R' : Type} (j : R → Option R') (L N : Nat) (k : Bool → Option R) (x0 : Int) :
    f73.b' L N (fun a0 => (k a0).bind j) x0 = (f73.b' L N k x0).bind j := by
  unfold f73.b'
  repeat' (first | (with_reducible refine cond_nat ?_ ?_) | (with_reducible refine bind_nat fun _ => ?_) | rfl)
theorem f73.b_nat {R R' : Type} (j : R → Option R') (L N : Nat) (k : Bool → Option R) (x0 : Int) :
    f73.b L N (fun a0 => (k a0).bind j) x0 = (f73.b L N k x0).bind j := by
  unfold f73.b
  exact f73.b'_nat ..
theorem f73.ok (L N : Nat) (hΦ : TellsOk Try.prog ((Φ74 L N))) : EntOk Try.prog 73 (f73.ent L N) := by
  intro args vw site h
  unfold f73.ent
  split
  · rename_i d ha
    intro y hy hs
    refine call_ro (dep := 1000) (E := (E73 L N)) (rs := (.one .bool)) (v := (.tv .bool y)) (sound_of hΦ) okP (callI_sound (sound_of hΦ) okP 0 1000) (f := Try.f73) rfl hs ha ?_ rfl site
    refine (f73.b_eq L N some d.1).trans ?_
    refine ((f73.b_nat (fun y => (some (.tv .bool y) : Option AV)) L N some d.1)).trans ?_
    rw [show f73.b L N some d.1 = some y from hy]
    rfl
  · intro y hy
    cases hy
def Φ73 (L N : Nat) : Tells := (addT (Φ74 L N) 73 (f73.ent L N))
theorem Φ73_ok (L N : Nat) : TellsOk Try.prog (Φ73 L N) := addT_ok (Φ74_ok L N) (f73.ok L N (Φ74_ok L N))
def f72.b' {R : Type} (L N : Nat) (k : Bool → Option R) (x0 : Int) : Option R :=
  (f73 L N x0).bind fun y0 =>
  k (!y0)
def f72.b {R : Type} (L N : Nat) (k : Bool → Option R) (x0 : Int) : Option R :=
  f72.b' L N k x0
def f72 (L N : Nat) (x0 : Int) : Option (Bool) := f72.b L N some x0
def f72.ent (L N : Nat) (args : List AV) (vw : View) (site : Nat) : Ans := match roD [i64] vw args with
  | some d => ⟨Bool, f72 L N d.1, fun y => ((.tv .bool y), [], [])⟩
  | none => Ans.no
noncomputable def E72 (L N : Nat) : Env := { P := Try.prog, ty := tyOf, Φ := (Φ73 L N), inl := fun _ => false, live := lives, liveX := livesX, L := L }
theorem f72.b_pre {R : Type} (L N : Nat) (κ : AV → Option R) (x0 : Int) :
    evBody (E72 L N) (evCallI (E72 L N) 0 1000) 1000 72 Try.f72 [(.tv i64 x0)] [] [] (finC (.one .bool) κ)
    = f72.b' L N (fun a0 => κ (.tv .bool a0)) x0 := by kernel_rfl
theorem f72.b_eq {R : Type} (L N : Nat) (κ : AV → Option R) (x0 : Int) :
    evBody (E72 L N) (evCallI (E72 L N) 0 1000) 1000 72 Try.f72 [(.tv i64 x0)] [] [] (finC (.one .bool) κ)
    = f72.b L N (fun a0 => κ (.tv .bool a0)) x0 := by
  rw [f72.b_pre]
  unfold f72.b
  rfl
theorem f72.b'_nat {R R' : Type} (j : R → Option R') (L N : Nat) (k : Bool → Option R) (x0 : Int) :
    f72.b' L N (fun a0 => (k a0).bind j) x0 = (f72.b' L N k x0).bind j := by
  unfold f72.b'
  repeat' (first | (with_reducible refine cond_nat ?_ ?_) | (with_reducible refine bind_nat fun _ => ?_) | rfl)
theorem f72.b_nat {R R' : Type} (j : R → Option R') (L N : Nat) (k : Bool → Option R) (x0 : Int) :
    f72.b L N (fun a0 => (k a0).bind j) x0 = (f72.b L N k x0).bind j := by
  unfold f72.b
  exact f72.b'_nat ..
theorem f72.ok (L N : Nat) (hΦ : TellsOk Try.prog ((Φ73 L N))) : EntOk Try.prog 72 (f72.ent L N) := by
  intro args vw site h
  unfold f72.ent
  split
  · rename_i d ha
    intro y hy hs
    refine call_ro (dep := 1000) (E := (E72 L N)) (rs := (.one .bool)) (v := (.tv .bool y)) (sound_of hΦ) okP (callI_sound (sound_of hΦ) okP 0 1000) (f := Try.f72) rfl hs ha ?_ rfl site
    refine (f72.b_eq L N some d.1).trans ?_
    refine ((f72.b_nat (fun y => (some (.tv .bool y) : Option AV)) L N some d.1)).trans ?_
    rw [show f72.b L N some d.1 = some y from hy]
    rfl
  · intro y hy
    cases hy
def Φ72 (L N : Nat) : Tells := (addT (Φ73 L N) 72 (f72.ent L N))
theorem Φ72_ok (L N : Nat) : TellsOk Try.prog (Φ72 L N) := addT_ok (Φ73_ok L N) (f72.ok L N (Φ73_ok L N))
def f91_1.s0' {R : Type} (L N : Nat) (k0_e0 : Option R) (k0_r : Int → Option R) (rec0 : (List Int) → Int → Int → Option R) (s0 : (List Int)) (s1 : Int) (s2 : Int) : Option R :=
  bif (decide (s2 < s1)) then
    bif (decide (0 ≤ s2) && decide (s2 < (s0.length : Int))) then
      (f72 L N (listAt s0 (0 : Int) s2.toNat)).bind fun y3 =>
      bif y3 then
        k0_r s2
      else rec0 s0 s1 (wi (s2 + (1 : Int)))
    else none
  else k0_e0
def f91_1.s0 {R : Type} (L N : Nat) (k0_e0 : Option R) (k0_r : Int → Option R) (rec0 : (List Int) → Int → Int → Option R) (s0 : (List Int)) (s1 : Int) (s2 : Int) : Option R :=
  f91_1.s0' L N k0_e0 k0_r rec0 s0 s1 s2
def f91_1.l0 {R : Type} (L N : Nat) (k0_e0 : Option R) (k0_r : Int → Option R) : Nat → (List Int) → Int → Int → Option R
  | 0, _, _, _ => none
  | n + 1, s0, s1, s2 => f91_1.s0 L N k0_e0 k0_r (f91_1.l0 L N k0_e0 k0_r n) s0 s1 s2
def f91_1.T0 (s0 : (List Int)) (s1 : Int) (s2 : Int) : T := mkT 19 [(0, (.tv (.sl i64) s0)), (1, (.fn 72 [])), (7, (.tv i64 s1)), (8, (.tv i64 s2))]
def f91_1.H0 (s0 : (List Int)) (s1 : Int) (s2 : Int) : H := []
def f91_1.T0_e0 : T := mkT 19 []
def f91_1.H0_e0 : H := []
def f91_1.T0_r (z4 : Int) : T := mkT 19 [(4, (.tv i64 z4))]
def f91_1.H0_r (z4 : Int) : H := []
def f91_1.p0_e0' {R : Type} (L N : Nat) (k : Int → Option R) : Option R :=
  k (-1 : Int)
def f91_1.p0_e0 {R : Type} (L N : Nat) (k : Int → Option R) : Option R :=
  f91_1.p0_e0' L N k
def f91_1.p0_r' {R : Type} (L N : Nat) (k : Int → Option R) (z4 : Int) : Option R :=
  k z4
def f91_1.p0_r {R : Type} (L N : Nat) (k : Int → Option R) (z4 : Int) : Option R :=
  f91_1.p0_r' L N k z4
def f91_1.b' {R : Type} (L N : Nat) (k : Int → Option R) (w0 : (List Int) → Int → Int → Option R) (x0 : (List Int)) : Option R :=
  w0 x0 (x0.length : Int) (0 : Int)
def f91_1.b {R : Type} (L N : Nat) (k : Int → Option R) (x0 : (List Int)) : Option R :=
  f91_1.b' L N k (fun s0 s1 s2 => f91_1.l0 L N (f91_1.p0_e0 L N k) (fun z4 => f91_1.p0_r L N k z4) L s0 s1 s2) x0
def f91_1 (L N : Nat) (x0 : (List Int)) : Option (Int) := f91_1.b L N some x0
def f91_1.ent (L N : Nat) (args : List AV) (vw : View) (site : Nat) : Option Ans := match shD [(.dat (.sl i64)), (.fn 72 [])] vw args with
  | some d => some ⟨Int, f91_1 L N d.1, fun y => ((.tv i64 y), [], [])⟩
  | none => none
noncomputable def E91_1 (L N : Nat) : Env := { P := Try.prog, ty := tyOf, Φ := (Φ72 L N), inl := fun _ => false, live := lives, liveX := livesX, L := L }
noncomputable def f91_1.c0 : Code := loopAt 0 (codeOf Try.f91)
theorem f91_1.s0_pre {R : Type} (L N : Nat) (κ : Ex → T → H → Option R) (rec : T → H → Option R) (s0 : (List Int)) (s1 : Int) (s2 : Int) :
    evRd (E91_1 L N) (evCallI (E91_1 L N) 0 1000) 1000 91 19 0 f91_1.c0 κ rec (f91_1.T0 s0 s1 s2) (f91_1.H0 s0 s1 s2)
    = f91_1.s0' L N (κ (.exit 0) f91_1.T0_e0 f91_1.H0_e0) (fun z4 => κ .ret (f91_1.T0_r z4) (f91_1.H0_r z4)) (fun s0 s1 s2 => rec (f91_1.T0 s0 s1 s2) (f91_1.H0 s0 s1 s2)) s0 s1 s2 := by kernel_rfl
theorem f91_1.s0_eq {R : Type} (L N : Nat) (κ : Ex → T → H → Option R) (rec : T → H → Option R) (s0 : (List Int)) (s1 : Int) (s2 : Int) :
    evRd (E91_1 L N) (evCallI (E91_1 L N) 0 1000) 1000 91 19 0 f91_1.c0 κ rec (f91_1.T0 s0 s1 s2) (f91_1.H0 s0 s1 s2)
    = f91_1.s0 L N (κ (.exit 0) f91_1.T0_e0 f91_1.H0_e0) (fun z4 => κ .ret (f91_1.T0_r z4) (f91_1.H0_r z4)) (fun s0 s1 s2 => rec (f91_1.T0 s0 s1 s2) (f91_1.H0 s0 s1 s2)) s0 s1 s2 := by
  rw [f91_1.s0_pre]
  unfold f91_1.s0
  rfl
theorem f91_1.l0_eq {R : Type} (L N : Nat) (κ : Ex → T → H → Option R) : ∀ (n : Nat) (s0 : (List Int)) (s1 : Int) (s2 : Int),
    evLp (E91_1 L N) (evCallI (E91_1 L N) 0 1000) 1000 91 19 0 f91_1.c0 κ n (f91_1.T0 s0 s1 s2) (f91_1.H0 s0 s1 s2)
    = f91_1.l0 L N (κ (.exit 0) f91_1.T0_e0 f91_1.H0_e0) (fun z4 => κ .ret (f91_1.T0_r z4) (f91_1.H0_r z4)) n s0 s1 s2 := by
  intro n
  induction n with
  | zero => intros; rfl
  | succ n ih =>
    intro s0 s1 s2
    rw [evLp_succ, f91_1.s0_eq]
    simp only [ih]
    rfl
theorem f91_1.p0_e0_pre {R : Type} (L N : Nat) (κ : AV → Option R) :
    (contAt (E91_1 L N) (evCallI (E91_1 L N) 0 1000) 1000 91 19 0 (codeOf Try.f91) (finK (E91_1 L N) 1000 Try.f91 (finC (.one i64) κ))) (.exit 0) f91_1.T0_e0 f91_1.H0_e0
    = f91_1.p0_e0' L N (fun a0 => κ (.tv i64 a0)) := by kernel_rfl
theorem f91_1.p0_e0_eq {R : Type} (L N : Nat) (κ : AV → Option R) :
    (contAt (E91_1 L N) (evCallI (E91_1 L N) 0 1000) 1000 91 19 0 (codeOf Try.f91) (finK (E91_1 L N) 1000 Try.f91 (finC (.one i64) κ))) (.exit 0) f91_1.T0_e0 f91_1.H0_e0
    = f91_1.p0_e0 L N (fun a0 => κ (.tv i64 a0)) := by
  rw [f91_1.p0_e0_pre]
  unfold f91_1.p0_e0
  rfl
theorem f91_1.p0_r_pre {R : Type} (L N : Nat) (κ : AV → Option R) (z4 : Int) :
    (contAt (E91_1 L N) (evCallI (E91_1 L N) 0 1000) 1000 91 19 0 (codeOf Try.f91) (finK (E91_1 L N) 1000 Try.f91 (finC (.one i64) κ))) .ret (f91_1.T0_r z4) (f91_1.H0_r z4)
    = f91_1.p0_r' L N (fun a0 => κ (.tv i64 a0)) z4 := by kernel_rfl
theorem f91_1.p0_r_eq {R : Type} (L N : Nat) (κ : AV → Option R) (z4 : Int) :
    (contAt (E91_1 L N) (evCallI (E91_1 L N) 0 1000) 1000 91 19 0 (codeOf Try.f91) (finK (E91_1 L N) 1000 Try.f91 (finC (.one i64) κ))) .ret (f91_1.T0_r z4) (f91_1.H0_r z4)
    = f91_1.p0_r L N (fun a0 => κ (.tv i64 a0)) z4 := by
  rw [f91_1.p0_r_pre]
  unfold f91_1.p0_r
  rfl
theorem f91_1.b_pre {R : Type} (L N : Nat) (κ : AV → Option R) (x0 : (List Int)) :
    evBody (E91_1 L N) (evCallI (E91_1 L N) 0 1000) 1000 91 Try.f91 [(.tv (.sl i64) x0), (.fn 72 [])] [] [] (finC (.one i64) κ)
    = f91_1.b' L N (fun a0 => κ (.tv i64 a0)) (fun s0 s1 s2 => evLp (E91_1 L N) (evCallI (E91_1 L N) 0 1000) 1000 91 19 0 f91_1.c0 (contAt (E91_1 L N) (evCallI (E91_1 L N) 0 1000) 1000 91 19 0 (codeOf Try.f91) (finK (E91_1 L N) 1000 Try.f91 (finC (.one i64) κ))) L (f91_1.T0 s0 s1 s2) (f91_1.H0 s0 s1 s2)) x0 := by kernel_rfl
theorem f91_1.b_eq {R : Type} (L N : Nat) (κ : AV → Option R) (x0 : (List Int)) :
    evBody (E91_1 L N) (evCallI (E91_1 L N) 0 1000) 1000 91 Try.f91 [(.tv (.sl i64) x0), (.fn 72 [])] [] [] (finC (.one i64) κ)
    = f91_1.b L N (fun a0 => κ (.tv i64 a0)) x0 := by
  rw [f91_1.b_pre]
  unfold f91_1.b
  simp only [f91_1.l0_eq, f91_1.p0_e0_eq, f91_1.p0_r_eq]
theorem f91_1.s0'_nat {R R' : Type} (j : R → Option R') (L N : Nat) (k0_e0 : Option R) (k0_r : Int → Option R) (rec0 : (List Int) → Int → Int → Option R) (s0 : (List Int)) (s1 : Int) (s2 : Int) :
    f91_1.s0' L N (k0_e0.bind j) (fun a0 => (k0_r a0).bind j) (fun a0 a1 a2 => (rec0 a0 a1 a2).bind j) s0 s1 s2 = (f91_1.s0' L N k0_e0 k0_r rec0 s0 s1 s2).bind j := by
  unfold f91_1.s0'
  repeat' (first | (with_reducible refine cond_nat ?_ ?_) | (with_reducible refine bind_nat fun _ => ?_) | rfl)
theorem f91_1.s0_nat {R R' : Type} (j : R → Option R') (L N : Nat) (k0_e0 : Option R) (k0_r : Int → Option R) (rec0 : (List Int) → Int → Int → Option R) (s0 : (List Int)) (s1 : Int) (s2 : Int) :
    f91_1.s0 L N (k0_e0.bind j) (fun a0 => (k0_r a0).bind j) (fun a0 a1 a2 => (rec0 a0 a1 a2).bind j) s0 s1 s2 = (f91_1.s0 L N k0_e0 k0_r rec0 s0 s1 s2).bind j := by
  unfold f91_1.s0
  exact f91_1.s0'_nat ..
theorem f91_1.l0_nat {R R' : Type} (j : R → Option R') (L N : Nat) (k0_e0 : Option R) (k0_r : Int → Option R) : ∀ (n : Nat) (s0 : (List Int)) (s1 : Int) (s2 : Int),
    f91_1.l0 L N (k0_e0.bind j) (fun a0 => (k0_r a0).bind j) n s0 s1 s2 = (f91_1.l0 L N k0_e0 k0_r n s0 s1 s2).bind j := by
  intro n
  induction n with
  | zero => intros; rfl
  | succ n ih =>
    intro s0 s1 s2
    show f91_1.s0 L N (k0_e0.bind j) (fun a0 => (k0_r a0).bind j) (f91_1.l0 L N (k0_e0.bind j) (fun a0 => (k0_r a0).bind j) n) s0 s1 s2 = _
    rw [show f91_1.l0 L N (k0_e0.bind j) (fun a0 => (k0_r a0).bind j) n = (fun s0 s1 s2 => (f91_1.l0 L N k0_e0 k0_r n s0 s1 s2).bind j) from funext fun s0 => funext fun s1 => funext fun s2 => ih s0 s1 s2]
    exact f91_1.s0_nat ..
theorem f91_1.p0_e0'_nat {R R' : Type} (j : R → Option R') (L N : Nat) (k : Int → Option R) :
    f91_1.p0_e0' L N (fun a0 => (k a0).bind j) = (f91_1.p0_e0' L N k).bind j := by
  unfold f91_1.p0_e0'
  repeat' (first | (with_reducible refine cond_nat ?_ ?_) | (with_reducible refine bind_nat fun _ => ?_) | rfl)
theorem f91_1.p0_e0_nat {R R' : Type} (j : R → Option R') (L N : Nat) (k : Int → Option R) :
    f91_1.p0_e0 L N (fun a0 => (k a0).bind j) = (f91_1.p0_e0 L N k).bind j := by
  unfold f91_1.p0_e0
  exact f91_1.p0_e0'_nat ..
theorem f91_1.p0_r'_nat {R R' : Type} (j : R → Option R') (L N : Nat) (k : Int → Option R) (z4 : Int) :
    f91_1.p0_r' L N (fun a0 => (k a0).bind j) z4 = (f91_1.p0_r' L N k z4).bind j := by
  unfold f91_1.p0_r'
  repeat' (first | (with_reducible refine cond_nat ?_ ?_) | (with_reducible refine bind_nat fun _ => ?_) | rfl)
theorem f91_1.p0_r_nat {R R' : Type} (j : R → Option R') (L N : Nat) (k : Int → Option R) (z4 : Int) :
    f91_1.p0_r L N (fun a0 => (k a0).bind j) z4 = (f91_1.p0_r L N k z4).bind j := by
  unfold f91_1.p0_r
  exact f91_1.p0_r'_nat ..
theorem f91_1.b'_nat {R R' : Type} (j : R → Option R') (L N : Nat) (k : Int → Option R) (w0 : (List Int) → Int → Int → Option R) (x0 : (List Int)) :
    f91_1.b' L N (fun a0 => (k a0).bind j) (fun a0 a1 a2 => (w0 a0 a1 a2).bind j) x0 = (f91_1.b' L N k w0 x0).bind j := by
  unfold f91_1.b'
  repeat' (first | (with_reducible refine cond_nat ?_ ?_) | (with_reducible refine bind_nat fun _ => ?_) | rfl)
theorem f91_1.b_nat {R R' : Type} (j : R → Option R') (L N : Nat) (k : Int → Option R) (x0 : (List Int)) :
    f91_1.b L N (fun a0 => (k a0).bind j) x0 = (f91_1.b L N k x0).bind j := by
  unfold f91_1.b
  simp only [f91_1.l0_nat, f91_1.p0_e0_nat, f91_1.p0_r_nat]
  exact f91_1.b'_nat ..
theorem f91_1.ok (L N : Nat) (hΦ : TellsOk Try.prog ((Φ72 L N))) : EntOkO Try.prog 91 (f91_1.ent L N) := by
  intro args vw site h a ha
  unfold f91_1.ent at ha
  split at ha
  · rename_i d hd
    obtain rfl := Option.some.inj ha
    intro y hy hs
    refine call_rof (dep := 1000) (E := (E91_1 L N)) (rs := (.one i64)) (v := (.tv i64 y)) (sound_of hΦ) okP (callI_sound (sound_of hΦ) okP 0 1000) (f := Try.f91) rfl hs hd ?_ rfl site
    refine (f91_1.b_eq L N some d.1).trans ?_
    refine (f91_1.b_nat (fun y => (some (.tv i64 y) : Option AV)) L N some d.1).trans ?_
    rw [show f91_1.b L N some d.1 = some y from hy]
    rfl
  · cases ha
def Φ91_1 (L N : Nat) : Tells := (addO (Φ72 L N) 91 (f91_1.ent L N))
theorem Φ91_1_ok (L N : Nat) : TellsOk Try.prog (Φ91_1 L N) := addO_ok (Φ72_ok L N) (f91_1.ok L N (Φ72_ok L N))
def f71_1.b' {R : Type} (L N : Nat) (k : Bool → Option R) (x0 : (List Int)) : Option R :=
  (f91_1 L N x0).bind fun y0 =>
  k (decide (y0 ≥ (0 : Int)))
def f71_1.b {R : Type} (L N : Nat) (k : Bool → Option R) (x0 : (List Int)) : Option R :=
  f71_1.b' L N k x0
def f71_1 (L N : Nat) (x0 : (List Int)) : Option (Bool) := f71_1.b L N some x0
def f71_1.ent (L N : Nat) (args : List AV) (vw : View) (site : Nat) : Option Ans := match shD [(.dat (.sl i64)), (.fn 72 [])] vw args with
  | some d => some ⟨Bool, f71_1 L N d.1, fun y => ((.tv .bool y), [], [])⟩
  | none => none
noncomputable def E71_1 (L N : Nat) : Env := { P := Try.prog, ty := tyOf, Φ := (Φ91_1 L N), inl := fun _ => false, live := lives, liveX := livesX, L := L }
theorem f71_1.b_pre {R : Type} (L N : Nat) (κ : AV → Option R) (x0 : (List Int)) :
    evBody (E71_1 L N) (evCallI (E71_1 L N) 0 1000) 1000 71 Try.f71 [(.tv (.sl i64) x0), (.fn 72 [])] [] [] (finC (.one .bool) κ)
    = f71_1.b' L N (fun a0 => κ (.tv .bool a0)) x0 := by kernel_rfl
theorem f71_1.b_eq {R : Type} (L N : Nat) (κ : AV → Option R) (x0 : (List Int)) :
    evBody (E71_1 L N) (evCallI (E71_1 L N) 0 1000) 1000 71 Try.f71 [(.tv (.sl i64) x0), (.fn 72 [])] [] [] (finC (.one .bool) κ)
    = f71_1.b L N (fun a0 => κ (.tv .bool a0)) x0 := by
  rw [f71_1.b_pre]
  unfold f71_1.b
  rfl
theorem f71_1.b'_nat {R R' : Type} (j : R → Option R') (L N : Nat) (k : Bool → Option R) (x0 : (List Int)) :
    f71_1.b' L N (fun a0 => (k a0).bind j) x0 = (f71_1.b' L N k x0).bind j := by
  unfold f71_1.b'
  repeat' (first | (with_reducible refine cond_nat ?_ ?_) | (with_reducible refine bind_nat fun _ => ?_) | rfl)
theorem f71_1.b_nat {R R' : Type} (j : R → Option R') (L N : Nat) (k : Bool → Option R) (x0 : (List Int)) :
    f71_1.b L N (fun a0 => (k a0).bind j) x0 = (f71_1.b L N k x0).bind j := by
  unfold f71_1.b
  exact f71_1.b'_nat ..
theorem f71_1.ok (L N : Nat) (hΦ : TellsOk Try.prog ((Φ91_1 L N))) : EntOkO Try.prog 71 (f71_1.ent L N) := by
  intro args vw site h a ha
  unfold f71_1.ent at ha
  split at ha
  · rename_i d hd
    obtain rfl := Option.some.inj ha
    intro y hy hs
    refine call_rof (dep := 1000) (E := (E71_1 L N)) (rs := (.one .bool)) (v := (.tv .bool y)) (sound_of hΦ) okP (callI_sound (sound_of hΦ) okP 0 1000) (f := Try.f71) rfl hs hd ?_ rfl site
    refine (f71_1.b_eq L N some d.1).trans ?_
    refine (f71_1.b_nat (fun y => (some (.tv .bool y) : Option AV)) L N some d.1).trans ?_
    rw [show f71_1.b L N some d.1 = some y from hy]
    rfl
  · cases ha
def Φ71_1 (L N : Nat) : Tells := (addO (Φ91_1 L N) 71 (f71_1.ent L N))
theorem Φ71_1_ok (L N : Nat) : TellsOk Try.prog (Φ71_1 L N) := addO_ok (Φ91_1_ok L N) (f71_1.ok L N (Φ91_1_ok L N))
def f47.b' {R : Type} (L N : Nat) (k : Bool → Option R) (x0 : (List Int)) : Option R :=
  (f71_1 L N x0).bind fun y0 =>
  k (!y0)
def f47.b {R : Type} (L N : Nat) (k : Bool → Option R) (x0 : (List Int)) : Option R :=
  f47.b' L N k x0
def f47 (L N : Nat) (x0 : (List Int)) : Option (Bool) := f47.b L N some x0
def f47.ent (L N : Nat) (args : List AV) (vw : View) (site : Nat) : Ans := match roD [(.sl i64)] vw args with
  | some d => ⟨Bool, f47 L N d.1, fun y => ((.tv .bool y), [], [])⟩
  | none => Ans.no
noncomputable def E47 (L N : Nat) : Env := { P := Try.prog, ty := tyOf, Φ := (Φ71_1 L N), inl := fun _ => false, live := lives, liveX := livesX, L := L }
theorem f47.b_pre {R : Type} (L N : Nat) (κ : AV → Option R) (x0 : (List Int)) :
    evBody (E47 L N) (evCallI (E47 L N) 0 1000) 1000 47 Try.f47 [(.tv (.sl i64) x0)] [] [] (finC (.one .bool) κ)
    = f47.b' L N (fun a0 => κ (.tv .bool a0)) x0 := by kernel_rfl
theorem f47.b_eq {R : Type} (L N : Nat) (κ : AV → Option R) (x0 : (List Int)) :
    evBody (E47 L N) (evCallI (E47 L N) 0 1000) 1000 47 Try.f47 [(.tv (.sl i64) x0)] [] [] (finC (.one .bool) κ)
    = f47.b L N (fun a0 => κ (.tv .bool a0)) x0 := by
  rw [f47.b_pre]
  unfold f47.b
  rfl
theorem f47.b'_nat {R R' : Type} (j : R → Option R') (L N : Nat) (k : Bool → Option R) (x0 : (List Int)) :
    f47.b' L N (fun a0 => (k a0).bind j) x0 = (f47.b' L N k x0).bind j := by
  unfold f47.b'
  repeat' (first | (with_reducible refine cond_nat ?_ ?_) | (with_reducible refine bind_nat fun _ => ?_) | rfl)
theorem f47.b_nat {R R' : Type} (j : R → Option R') (L N : Nat) (k : Bool → Option R) (x0 : (List Int)) :
    f47.b L N (fun a0 => (k a0).bind j) x0 = (f47.b L N k x0).bind j := by
  unfold f47.b
  exact f47.b'_nat ..
theorem f47.ok (L N : Nat) (hΦ : TellsOk Try.prog ((Φ71_1 L N))) : EntOk Try.prog 47 (f47.ent L N) := by
  intro args vw site h
  unfold f47.ent
  split
  · rename_i d ha
    intro y hy hs
    refine call_ro (dep := 1000) (E := (E47 L N)) (rs := (.one .bool)) (v := (.tv .bool y)) (sound_of hΦ) okP (callI_sound (sound_of hΦ) okP 0 1000) (f := Try.f47) rfl hs ha ?_ rfl site
    refine (f47.b_eq L N some d.1).trans ?_
    refine ((f47.b_nat (fun y => (some (.tv .bool y) : Option AV)) L N some d.1)).trans ?_
    rw [show f47.b L N some d.1 = some y from hy]
    rfl
  · intro y hy
    cases hy
def Φ47 (L N : Nat) : Tells := (addT (Φ71_1 L N) 47 (f47.ent L N))
theorem Φ47_ok (L N : Nat) : TellsOk Try.prog (Φ47 L N) := addT_ok (Φ71_1_ok L N) (f47.ok L N (Φ71_1_ok L N))
def f22.b' {R : Type} (L N : Nat) (k : Bool → Option R) (x0 : (List Int)) : Option R :=
  bif (decide ((x0.length : Int) ≤ (20 : Int))) then
    (f47 L N x0).bind fun y0 =>
    k y0
  else k false
def f22.b {R : Type} (L N : Nat) (k : Bool → Option R) (x0 : (List Int)) : Option R :=
  f22.b' L N k x0
def f22 (L N : Nat) (x0 : (List Int)) : Option (Bool) := f22.b L N some x0
def f22.ent (L N : Nat) (args : List AV) (vw : View) (site : Nat) : Ans := match roD [(.sl i64)] vw args with
  | some d => ⟨Bool, f22 L N d.1, fun y => ((.tv .bool y), [], [])⟩
  | none => Ans.no
noncomputable def E22 (L N : Nat) : Env := { P := Try.prog, ty := tyOf, Φ := (Φ47 L N), inl := fun _ => false, live := lives, liveX := livesX, L := L }
theorem f22.b_pre {R : Type} (L N : Nat) (κ : AV → Option R) (x0 : (List Int)) :
    evBody (E22 L N) (evCallI (E22 L N) 0 1000) 1000 22 Try.f22 [(.tv (.sl i64) x0)] [] [] (finC (.one .bool) κ)
    = f22.b' L N (fun a0 => κ (.tv .bool a0)) x0 := by kernel_rfl
theorem f22.b_eq {R : Type} (L N : Nat) (κ : AV → Option R) (x0 : (List Int)) :
    evBody (E22 L N) (evCallI (E22 L N) 0 1000) 1000 22 Try.f22 [(.tv (.sl i64) x0)] [] [] (finC (.one .bool) κ)
    = f22.b L N (fun a0 => κ (.tv .bool a0)) x0 := by
  rw [f22.b_pre]
  unfold f22.b
  rfl
theorem f22.b'_nat {R R' : Type} (j : R → Option R') (L N : Nat) (k : Bool → Option R) (x0 : (List Int)) :
    f22.b' L N (fun a0 => (k a0).bind j) x0 = (f22.b' L N k x0).bind j := by
  unfold f22.b'
  repeat' (first | (with_reducible refine cond_nat ?_ ?_) | (with_reducible refine bind_nat fun _ => ?_) | rfl)
theorem f22.b_nat {R R' : Type} (j : R → Option R') (L N : Nat) (k : Bool → Option R) (x0 : (List Int)) :
    f22.b L N (fun a0 => (k a0).bind j) x0 = (f22.b L N k x0).bind j := by
  unfold f22.b
  exact f22.b'_nat ..
theorem f22.ok (L N : Nat) (hΦ : TellsOk Try.prog ((Φ47 L N))) : EntOk Try.prog 22 (f22.ent L N) := by
  intro args vw site h
  unfold f22.ent
  split
  · rename_i d ha
    intro y hy hs
    refine call_ro (dep := 1000) (E := (E22 L N)) (rs := (.one .bool)) (v := (.tv .bool y)) (sound_of hΦ) okP (callI_sound (sound_of hΦ) okP 0 1000) (f := Try.f22) rfl hs ha ?_ rfl site
    refine (f22.b_eq L N some d.1).trans ?_
    refine ((f22.b_nat (fun y => (some (.tv .bool y) : Option AV)) L N some d.1)).trans ?_
    rw [show f22.b L N some d.1 = some y from hy]
    rfl
  · intro y hy
    cases hy
def Φ22 (L N : Nat) : Tells := (addT (Φ47 L N) 22 (f22.ent L N))
theorem Φ22_ok (L N : Nat) : TellsOk Try.prog (Φ22 L N) := addT_ok (Φ47_ok L N) (f22.ok L N (Φ47_ok L N))
def f23.s0' {R : Type} (L N : Nat) (k0_e0 : Option R) (k0_r : Bool → Option R) (rec0 : (List Int) → (List Int) → Int → Option R) (s0 : (List Int)) (s1 : (List Int)) (s2 : Int) : Option R :=
  bif (decide (s2 < (s0.length : Int))) then
    bif (decide (0 ≤ s2) && decide (s2 < (s0.length : Int))) then
      bif (decide (0 ≤ s2) && decide (s2 < (s1.length : Int))) then
        bif ((listAt s0 (0 : Int) s2.toNat) != (listAt s1 (0 : Int) s2.toNat)) then
          k0_r false
        else rec0 s0 s1 (wi (s2 + (1 : Int)))
      else none
    else none
  else k0_e0
def f23.s0 {R : Type} (L N : Nat) (k0_e0 : Option R) (k0_r : Bool → Option R) (rec0 : (List Int) → (List Int) → Int → Option R) (s0 : (List Int)) (s1 : (List Int)) (s2 : Int) : Option R :=
  f23.s0' L N k0_e0 k0_r rec0 s0 s1 s2
def f23.l0 {R : Type} (L N : Nat) (k0_e0 : Option R) (k0_r : Bool → Option R) : Nat → (List Int) → (List Int) → Int → Option R
  | 0, _, _, _ => none
  | n + 1, s0, s1, s2 => f23.s0 L N k0_e0 k0_r (f23.l0 L N k0_e0 k0_r n) s0 s1 s2
def f23.T0 (s0 : (List Int)) (s1 : (List Int)) (s2 : Int) : T := mkT 26 [(0, (.tv (.sl i64) s0)), (1, (.tv (.sl i64) s1)), (5, (.tv i64 s2))]
def f23.H0 (s0 : (List Int)) (s1 : (List Int)) (s2 : Int) : H := []
def f23.T0_e0 : T := mkT 26 []
def f23.H0_e0 : H := []
def f23.T0_r (z3 : Bool) : T := mkT 26 [(4, (.tv .bool z3))]
def f23.H0_r (z3 : Bool) : H := []
def f23.p0_e0' {R : Type} (L N : Nat) (k : Bool → Option R) : Option R :=
  k true
def f23.p0_e0 {R : Type} (L N : Nat) (k : Bool → Option R) : Option R :=
  f23.p0_e0' L N k
def f23.p0_r' {R : Type} (L N : Nat) (k : Bool → Option R) (z3 : Bool) : Option R :=
  k z3
def f23.p0_r {R : Type} (L N : Nat) (k : Bool → Option R) (z3 : Bool) : Option R :=
  f23.p0_r' L N k z3
def f23.b' {R : Type} (L N : Nat) (k : Bool → Option R) (w0 : (List Int) → (List Int) → Int → Option R) (x0 : (List Int)) (x1 : (List Int)) : Option R :=
  bif ((x0.length : Int) != (x1.length : Int)) then
    k false
  else w0 x0 x1 (0 : Int)
def f23.b {R : Type} (L N : Nat) (k : Bool → Option R) (x0 : (List Int)) (x1 : (List Int)) : Option R :=
  f23.b' L N k (fun s0 s1 s2 => f23.l0 L N (f23.p0_e0 L N k) (fun z3 => f23.p0_r L N k z3) L s0 s1 s2) x0 x1
def f23 (L N : Nat) (x0 : (List Int)) (x1 : (List Int)) : Option (Bool) := f23.b L N some x0 x1
def f23.ent (L N : Nat) (args : List AV) (vw : View) (site : Nat) : Ans := match roD [(.sl i64), (.sl i64)] vw args with
  | some d => ⟨Bool, f23 L N d.1 d.2.1, fun y => ((.tv .bool y), [], [])⟩
  | none => Ans.no
noncomputable def E23 (L N : Nat) : Env := { P := Try.prog, ty := tyOf, Φ := (Φ22 L N), inl := fun _ => false, live := lives, liveX := livesX, L := L }
noncomputable def f23.c0 : Code := loopAt 0 (codeOf Try.f23)
theorem f23.s0_pre {R : Type} (L N : Nat) (κ : Ex → T → H → Option R) (rec : T → H → Option R) (s0 : (List Int)) (s1 : (List Int)) (s2 : Int) :
    evRd (E23 L N) (evCallI (E23 L N) 0 1000) 1000 23 26 0 f23.c0 κ rec (f23.T0 s0 s1 s2) (f23.H0 s0 s1 s2)
    = f23.s0' L N (κ (.exit 0) f23.T0_e0 f23.H0_e0) (fun z3 => κ .ret (f23.T0_r z3) (f23.H0_r z3)) (fun s0 s1 s2 => rec (f23.T0 s0 s1 s2) (f23.H0 s0 s1 s2)) s0 s1 s2 := by kernel_rfl
theorem f23.s0_eq {R : Type} (L N : Nat) (κ : Ex → T → H → Option R) (rec : T → H → Option R) (s0 : (List Int)) (s1 : (List Int)) (s2 : Int) :
    evRd (E23 L N) (evCallI (E23 L N) 0 1000) 1000 23 26 0 f23.c0 κ rec (f23.T0 s0 s1 s2) (f23.H0 s0 s1 s2)
    = f23.s0 L N (κ (.exit 0) f23.T0_e0 f23.H0_e0) (fun z3 => κ .ret (f23.T0_r z3) (f23.H0_r z3)) (fun s0 s1 s2 => rec (f23.T0 s0 s1 s2) (f23.H0 s0 s1 s2)) s0 s1 s2 := by
  rw [f23.s0_pre]
  unfold f23.s0
  rfl
theorem f23.l0_eq {R : Type} (L N : Nat) (κ : Ex → T → H → Option R) : ∀ (n : Nat) (s0 : (List Int)) (s1 : (List Int)) (s2 : Int),
    evLp (E23 L N) (evCallI (E23 L N) 0 1000) 1000 23 26 0 f23.c0 κ n (f23.T0 s0 s1 s2) (f23.H0 s0 s1 s2)
    = f23.l0 L N (κ (.exit 0) f23.T0_e0 f23.H0_e0) (fun z3 => κ .ret (f23.T0_r z3) (f23.H0_r z3)) n s0 s1 s2 := by
  intro n
  induction n with
  | zero => intros; rfl
  | succ n ih =>
    intro s0 s1 s2
    rw [evLp_succ, f23.s0_eq]
    simp only [ih]
    rfl
theorem f23.p0_e0_pre {R : Type} (L N : Nat) (κ : AV → Option R) :
    (contAt (E23 L N) (evCallI (E23 L N) 0 1000) 1000 23 26 0 (codeOf Try.f23) (finK (E23 L N) 1000 Try.f23 (finC (.one .bool) κ))) (.exit 0) f23.T0_e0 f23.H0_e0
    = f23.p0_e0' L N (fun a0 => κ (.tv .bool a0)) := by kernel_rfl
theorem f23.p0_e0_eq {R : Type} (L N : Nat) (κ : AV → Option R) :
    (contAt (E23 L N) (evCallI (E23 L N) 0 1000) 1000 23 26 0 (codeOf Try.f23) (finK (E23 L N) 1000 Try.f23 (finC (.one .bool) κ))) (.exit 0) f23.T0_e0 f23.H0_e0
    = f23.p0_e0 L N (fun a0 => κ (.tv .bool a0)) := by
  rw [f23.p0_e0_pre]
  unfold f23.p0_e0
  rfl
theorem f23.p0_r_pre {R : Type} (L N : Nat) (κ : AV → Option R) (z3 : Bool) :
    (contAt (E23 L N) (evCallI (E23 L N) 0 1000) 1000 23 26 0 (codeOf Try.f23) (finK (E23 L N) 1000 Try.f23 (finC (.one .bool) κ))) .ret (f23.T0_r z3) (f23.H0_r z3)
    = f23.p0_r' L N (fun a0 => κ (.tv .bool a0)) z3 := by kernel_rfl
theorem f23.p0_r_eq {R : Type} (L N : Nat) (κ : AV → Option R) (z3 : Bool) :
    (contAt (E23 L N) (evCallI (E23 L N) 0 1000) 1000 23 26 0 (codeOf Try.f23) (finK (E23 L N) 1000 Try.f23 (finC (.one .bool) κ))) .ret (f23.T0_r z3) (f23.H0_r z3)
    = f23.p0_r L N (fun a0 => κ (.tv .bool a0)) z3 := by
  rw [f23.p0_r_pre]
  unfold f23.p0_r
  rfl
theorem f23.b_pre {R : Type} (L N : Nat) (κ : AV → Option R) (x0 : (List Int)) (x1 : (List Int)) :
    evBody (E23 L N) (evCallI (E23 L N) 0 1000) 1000 23 Try.f23 [(.tv (.sl i64) x0), (.tv (.sl i64) x1)] [] [] (finC (.one .bool) κ)
    = f23.b' L N (fun a0 => κ (.tv .bool a0)) (fun s0 s1 s2 => evLp (E23 L N) (evCallI (E23 L N) 0 1000) 1000 23 26 0 f23.c0 (contAt (E23 L N) (evCallI (E23 L N) 0 1000) 1000 23 26 0 (codeOf Try.f23) (finK (E23 L N) 1000 Try.f23 (finC (.one .bool) κ))) L (f23.T0 s0 s1 s2) (f23.H0 s0 s1 s2)) x0 x1 := by kernel_rfl
theorem f23.b_eq {R : Type} (L N : Nat) (κ : AV → Option R) (x0 : (List Int)) (x1 : (List Int)) :
    evBody (E23 L N) (evCallI (E23 L N) 0 1000) 1000 23 Try.f23 [(.tv (.sl i64) x0), (.tv (.sl i64) x1)] [] [] (finC (.one .bool) κ)
    = f23.b L N (fun a0 => κ (.tv .bool a0)) x0 x1 := by
  rw [f23.b_pre]
  unfold f23.b
  simp only [f23.l0_eq, f23.p0_e0_eq, f23.p0_r_eq]
theorem f23.s0'_nat {R R' : Type} (j : R → Option R') (L N : Nat) (k0_e0 : Option R) (k0_r : Bool → Option R) (rec0 : (List Int) → (List Int) → Int → Option R) (s0 : (List Int)) (s1 : (List Int)) (s2 : Int) :
    f23.s0' L N (k0_e0.bind j) (fun a0 => (k0_r a0).bind j) (fun a0 a1 a2 => (rec0 a0 a1 a2).bind j) s0 s1 s2 = (f23.s0' L N k0_e0 k0_r rec0 s0 s1 s2).bind j := by
  unfold f23.s0'
  repeat' (first | (with_reducible refine cond_nat ?_ ?_) | (with_reducible refine bind_nat fun _ => ?_) | rfl)
theorem f23.s0_nat {R R' : Type} (j : R → Option R') (L N : Nat) (k0_e0 : Option R) (k0_r : Bool → Option R) (rec0 : (List Int) → (List Int) → Int → Option R) (s0 : (List Int)) (s1 : (List Int)) (s2 : Int) :
    f23.s0 L N (k0_e0.bind j) (fun a0 => (k0_r a0).bind j) (fun a0 a1 a2 => (rec0 a0 a1 a2).bind j) s0 s1 s2 = (f23.s0 L N k0_e0 k0_r rec0 s0 s1 s2).bind j := by
  unfold f23.s0
  exact f23.s0'_nat ..
theorem f23.l0_nat {R R' : Type} (j : R → Option R') (L N : Nat) (k0_e0 : Option R) (k0_r : Bool → Option R) : ∀ (n : Nat) (s0 : (List Int)) (s1 : (List Int)) (s2 : Int),
    f23.l0 L N (k0_e0.bind j) (fun a0 => (k0_r a0).bind j) n s0 s1 s2 = (f23.l0 L N k0_e0 k0_r n s0 s1 s2).bind j := by
  intro n
  induction n with
  | zero => intros; rfl
  | succ n ih =>
    intro s0 s1 s2
    show f23.s0 L N (k0_e0.bind j) (fun a0 => (k0_r a0).bind j) (f23.l0 L N (k0_e0.bind j) (fun a0 => (k0_r a0).bind j) n) s0 s1 s2 = _
    rw [show f23.l0 L N (k0_e0.bind j) (fun a0 => (k0_r a0).bind j) n = (fun s0 s1 s2 => (f23.l0 L N k0_e0 k0_r n s0 s1 s2).bind j) from funext fun s0 => funext fun s1 => funext fun s2 => ih s0 s1 s2]
    exact f23.s0_nat ..
theorem f23.p0_e0'_nat {R R' : Type} (j : R → Option R') (L N : Nat) (k : Bool → Option R) :
    f23.p0_e0' L N (fun a0 => (k a0).bind j) = (f23.p0_e0' L N k).bind j := by
  unfold f23.p0_e0'
  repeat' (first | (with_reducible refine cond_nat ?_ ?_) | (with_reducible refine bind_nat fun _ => ?_) | rfl)
theorem f23.p0_e0_nat {R R' : Type} (j : R → Option R') (L N : Nat) (k : Bool → Option R) :
    f23.p0_e0 L N (fun a0 => (k a0).bind j) = (f23.p0_e0 L N k).bind j := by
  unfold f23.p0_e0
  exact f23.p0_e0'_nat ..
theorem f23.p0_r'_nat {R R' : Type} (j : R → Option R') (L N : Nat) (k : Bool → Option R) (z3 : Bool) :
    f23.p0_r' L N (fun a0 => (k a0).bind j) z3 = (f23.p0_r' L N k z3).bind j := by
  unfold f23.p0_r'
  repeat' (first | (with_reducible refine cond_nat ?_ ?_) | (with_reducible refine bind_nat fun _ => ?_) | rfl)
theorem f23.p0_r_nat {R R' : Type} (j : R → Option R') (L N : Nat) (k : Bool → Option R) (z3 : Bool) :
    f23.p0_r L N (fun a0 => (k a0).bind j) z3 = (f23.p0_r L N k z3).bind j := by
  unfold f23.p0_r
  exact f23.p0_r'_nat ..
theorem f23.b'_nat {R R' : Type} (j : R → Option R') (L N : Nat) (k : Bool → Option R) (w0 : (List Int) → (List Int) → Int → Option R) (x0 : (List Int)) (x1 : (List Int)) :
    f23.b' L N (fun a0 => (k a0).bind j) (fun a0 a1 a2 => (w0 a0 a1 a2).bind j) x0 x1 = (f23.b' L N k w0 x0 x1).bind j := by
  unfold f23.b'
  repeat' (first | (with_reducible refine cond_nat ?_ ?_) | (with_reducible refine bind_nat fun _ => ?_) | rfl)
theorem f23.b_nat {R R' : Type} (j : R → Option R') (L N : Nat) (k : Bool → Option R) (x0 : (List Int)) (x1 : (List Int)) :
    f23.b L N (fun a0 => (k a0).bind j) x0 x1 = (f23.b L N k x0 x1).bind j := by
  unfold f23.b
  simp only [f23.l0_nat, f23.p0_e0_nat, f23.p0_r_nat]
  exact f23.b'_nat ..
theorem f23.ok (L N : Nat) (hΦ : TellsOk Try.prog ((Φ22 L N))) : EntOk Try.prog 23 (f23.ent L N) := by
  intro args vw site h
  unfold f23.ent
  split
  · rename_i d ha
    intro y hy hs
    refine call_ro (dep := 1000) (E := (E23 L N)) (rs := (.one .bool)) (v := (.tv .bool y)) (sound_of hΦ) okP (callI_sound (sound_of hΦ) okP 0 1000) (f := Try.f23) rfl hs ha ?_ rfl site
    refine (f23.b_eq L N some d.1 d.2.1).trans ?_
    refine ((f23.b_nat (fun y => (some (.tv .bool y) : Option AV)) L N some d.1 d.2.1)).trans ?_
    rw [show f23.b L N some d.1 d.2.1 = some y from hy]
    rfl
  · intro y hy
    cases hy
def Φ23 (L N : Nat) : Tells := (addT (Φ22 L N) 23 (f23.ent L N))
theorem Φ23_ok (L N : Nat) : TellsOk Try.prog (Φ23 L N) := addT_ok (Φ22_ok L N) (f23.ok L N (Φ22_ok L N))
def f5.b' {R : Type} (L N : Nat) (k : Bool → Option R) (x0 : (List Int)) : Option R :=
  bif (decide ((x0.length : Int) > (1048576 : Int))) then
    k true
  else (f21 L N x0).bind fun y0 =>
  (f20 L N y0).bind fun y1 =>
  (f21 L N x0).bind fun y2 =>
  (f22 L N y2).bind fun y3 =>
  bif (!(y3 == y1)) then
    k false
  else (f21 L N x0).bind fun y4 =>
  (f23 L N y2 y4).bind fun y5 =>
  bif (!y5) then
    k false
  else k true
def f5.b {R : Type} (L N : Nat) (k : Bool → Option R) (x0 : (List Int)) : Option R :=
  f5.b' L N k x0
def f5 (L N : Nat) (x0 : (List Int)) : Option (Bool) := f5.b L N some x0
def f5.ent (L N : Nat) (args : List AV) (vw : View) (site : Nat) : Ans := match roD [(.sl i64)] vw args with
  | some d => ⟨Bool, f5 L N d.1, fun y => ((.tv .bool y), [], [])⟩
  | none => Ans.no
noncomputable def E5 (L N : Nat) : Env := { P := Try.prog, ty := tyOf, Φ := (Φ23 L N), inl := fun _ => false, live := lives, liveX := livesX, L := L }
theorem f5.b_pre {R : Type} (L N : Nat) (κ : AV → Option R) (x0 : (List Int)) :
    evBody (E5 L N) (evCallI (E5 L N) 0 1000) 1000 5 Try.f5 [(.tv (.sl i64) x0)] [] [] (finC (.one .bool) κ)
    = f5.b' L N (fun a0 => κ (.tv .bool a0)) x0 := by kernel_rfl
theorem f5.b_eq {R : Type} (L N : Nat) (κ : AV → Option R) (x0 : (List Int)) :
    evBody (E5 L N) (evCallI (E5 L N) 0 1000) 1000 5 Try.f5 [(.tv (.sl i64) x0)] [] [] (finC (.one .bool) κ)
    = f5.b L N (fun a0 => κ (.tv .bool a0)) x0 := by
  rw [f5.b_pre]
  unfold f5.b
  rfl
theorem f5.b'_nat {R R' : Type} (j : R → Option R') (L N : Nat) (k : Bool → Option R) (x0 : (List Int)) :
    f5.b' L N (fun a0 => (k a0).bind j) x0 = (f5.b' L N k x0).bind j := by
  unfold f5.b'
  repeat' (first | (with_reducible refine cond_nat ?_ ?_) | (with_reducible refine bind_nat fun _ => ?_) | rfl)
theorem f5.b_nat {R R' : Type} (j : R → Option R') (L N : Nat) (k : Bool → Option R) (x0 : (List Int)) :
    f5.b L N (fun a0 => (k a0).bind j) x0 = (f5.b L N k x0).bind j := by
  unfold f5.b
  exact f5.b'_nat ..
theorem f5.ok (L N : Nat) (hΦ : TellsOk Try.prog ((Φ23 L N))) : EntOk Try.prog 5 (f5.ent L N) := by
  intro args vw site h
  unfold f5.ent
  split
  · rename_i d ha
    intro y hy hs
    refine call_ro (dep := 1000) (E := (E5 L N)) (rs := (.one .bool)) (v := (.tv .bool y)) (sound_of hΦ) okP (callI_sound (sound_of hΦ) okP 0 1000) (f := Try.f5) rfl hs ha ?_ rfl site
    refine (f5.b_eq L N some d.1).trans ?_
    refine ((f5.b_nat (fun y => (some (.tv .bool y) : Option AV)) L N some d.1)).trans ?_
    rw [show f5.b L N some d.1 = some y from hy]
    rfl
  · intro y hy
    cases hy
def Φ5 (L N : Nat) : Tells := (addT (Φ23 L N) 5 (f5.ent L N))
theorem Φ5_ok (L N : Nat) : TellsOk Try.prog (Φ5 L N) := addT_ok (Φ23_ok L N) (f5.ok L N (Φ23_ok L N))
def f16.s0' {R : Type} (L N : Nat) (k0_e0 : (List Bool) → Option R) (rec0 : (List Bool) → Int → (List Bool) → Option R) (s0 : (List Bool)) (s1 : Int) (s2 : (List Bool)) : Option R :=
  bif (decide (s1 < (s0.length : Int))) then
    bif (decide (0 ≤ s1) && decide (s1 < (s0.length : Int))) then
      bif (decide (0 ≤ s1) && decide (s1 < (s2.length : Int))) then
        rec0 s0 (wi (s1 + (1 : Int))) (s2.set s1.toNat (listAt s0 false s1.toNat))
      else none
    else none
  else k0_e0 s2
def f16.s0 {R : Type} (L N : Nat) (k0_e0 : (List Bool) → Option R) (rec0 : (List Bool) → Int → (List Bool) → Option R) (s0 : (List Bool)) (s1 : Int) (s2 : (List Bool)) : Option R :=
  f16.s0' L N k0_e0 rec0 s0 s1 s2
def f16.l0 {R : Type} (L N : Nat) (k0_e0 : (List Bool) → Option R) : Nat → (List Bool) → Int → (List Bool) → Option R
  | 0, _, _, _ => none
  | n + 1, s0, s1, s2 => f16.s0 L N k0_e0 (f16.l0 L N k0_e0 n) s0 s1 s2
def f16.T0 (s0 : (List Bool)) (s1 : Int) (s2 : (List Bool)) : T := mkT 22 [(0, (.tv (.sl .bool) s0)), (3, (.row 1007)), (4, (.tv i64 s1))]
def f16.H0 (s0 : (List Bool)) (s1 : Int) (s2 : (List Bool)) : H := [(1007, (.row 4 .bool s2))]
def f16.T0_e0 (z3 : (List Bool)) : T := mkT 22 [(3, (.row 1007))]
def f16.H0_e0 (z3 : (List Bool)) : H := [(1007, (.row 4 .bool z3))]
def f16.p0_e0' {R : Type} (L N : Nat) (k : (List Bool) → Option R) (z3 : (List Bool)) : Option R :=
  k z3
def f16.p0_e0 {R : Type} (L N : Nat) (k : (List Bool) → Option R) (z3 : (List Bool)) : Option R :=
  f16.p0_e0' L N k z3
def f16.b' {R : Type} (L N : Nat) (k : (List Bool) → Option R) (w0 : (List Bool) → Int → (List Bool) → Option R) (x0 : (List Bool)) : Option R :=
  bif (decide (0 ≤ (x0.length : Int)) && decide ((x0.length : Int) ≤ (lim : Int))) then
    w0 x0 (0 : Int) (List.replicate (x0.length : Int).toNat false)
  else none
def f16.b {R : Type} (L N : Nat) (k : (List Bool) → Option R) (x0 : (List Bool)) : Option R :=
  f16.b' L N k (fun s0 s1 s2 => f16.l0 L N (fun z3 => f16.p0_e0 L N k z3) L s0 s1 s2) x0
def f16 (L N : Nat) (x0 : (List Bool)) : Option ((List Bool)) := f16.b L N some x0
def f16.ent (L N : Nat) (args : List AV) (vw : View) (site : Nat) : Ans := match coeD [(.sl .bool)] vw args with
  | some (d, u) => ⟨(List Bool), f16 L N d.1, fun y => ((.tv (.sl .bool) y), u, [])⟩
  | none => Ans.no
noncomputable def E16 (L N : Nat) : Env := { P := Try.prog, ty := tyOf, Φ := (Φ5 L N), inl := fun _ => false, live := lives, liveX := livesX, L := L }
noncomputable def f16.c0 : Code := loopAt 0 (codeOf Try.f16)
theorem f16.s0_pre {R : Type} (L N : Nat) (κ : Ex → T → H → Option R) (rec : T → H → Option R) (s0 : (List Bool)) (s1 : Int) (s2 : (List Bool)) :
    evRd (E16 L N) (evCallI (E16 L N) 0 1000) 1000 16 22 0 f16.c0 κ rec (f16.T0 s0 s1 s2) (f16.H0 s0 s1 s2)
    = f16.s0' L N (fun z3 => κ (.exit 0) (f16.T0_e0 z3) (f16.H0_e0 z3)) (fun s0 s1 s2 => rec (f16.T0 s0 s1 s2) (f16.H0 s0 s1 s2)) s0 s1 s2 := by kernel_rfl
theorem f16.s0_eq {R : Type} (L N : Nat) (κ : Ex → T → H → Option R) (rec : T → H → Option R) (s0 : (List Bool)) (s1 : Int) (s2 : (List Bool)) :
    evRd (E16 L N) (evCallI (E16 L N) 0 1000) 1000 16 22 0 f16.c0 κ rec (f16.T0 s0 s1 s2) (f16.H0 s0 s1 s2)
    = f16.s0 L N (fun z3 => κ (.exit 0) (f16.T0_e0 z3) (f16.H0_e0 z3)) (fun s0 s1 s2 => rec (f16.T0 s0 s1 s2) (f16.H0 s0 s1 s2)) s0 s1 s2 := by
  rw [f16.s0_pre]
  unfold f16.s0
  rfl
theorem f16.l0_eq {R : Type} (L N : Nat) (κ : Ex → T → H → Option R) : ∀ (n : Nat) (s0 : (List Bool)) (s1 : Int) (s2 : (List Bool)),
    evLp (E16 L N) (evCallI (E16 L N) 0 1000) 1000 16 22 0 f16.c0 κ n (f16.T0 s0 s1 s2) (f16.H0 s0 s1 s2)
    = f16.l0 L N (fun z3 => κ (.exit 0) (f16.T0_e0 z3) (f16.H0_e0 z3)) n s0 s1 s2 := by
  intro n
  induction n with
  | zero => intros; rfl
  | succ n ih =>
    intro s0 s1 s2
    rw [evLp_succ, f16.s0_eq]
    simp only [ih]
    rfl
theorem f16.p0_e0_pre {R : Type} (L N : Nat) (κ : AV → Option R) (z3 : (List Bool)) :
    (contAt (E16 L N) (evCallI (E16 L N) 0 1000) 1000 16 22 0 (codeOf Try.f16) (finK (E16 L N) 1000 Try.f16 (finC (.one (.sl .bool)) κ))) (.exit 0) (f16.T0_e0 z3) (f16.H0_e0 z3)
    = f16.p0_e0' L N (fun a0 => κ (.tv (.sl .bool) a0)) z3 := by kernel_rfl
theorem f16.p0_e0_eq {R : Type} (L N : Nat) (κ : AV → Option R) (z3 : (List Bool)) :
    (contAt (E16 L N) (evCallI (E16 L N) 0 1000) 1000 16 22 0 (codeOf Try.f16) (finK (E16 L N) 1000 Try.f16 (finC (.one (.sl .bool)) κ))) (.exit 0) (f16.T0_e0 z3) (f16.H0_e0 z3)
    = f16.p0_e0 L N (fun a0 => κ (.tv (.sl .bool) a0)) z3 := by
  rw [f16.p0_e0_pre]
  unfold f16.p0_e0
  rfl
theorem f16.b_pre {R : Type} (L N : Nat) (κ : AV → Option R) (x0 : (List Bool)) :
    evBody (E16 L N) (evCallI (E16 L N) 0 1000) 1000 16 Try.f16 [(.tv (.sl .bool) x0)] [] [] (finC (.one (.sl .bool)) κ)
    = f16.b' L N (fun a0 => κ (.tv (.sl .bool) a0)) (fun s0 s1 s2 => evLp (E16 L N) (evCallI (E16 L N) 0 1000) 1000 16 22 0 f16.c0 (contAt (E16 L N) (evCallI (E16 L N) 0 1000) 1000 16 22 0 (codeOf Try.f16) (finK (E16 L N) 1000 Try.f16 (finC (.one (.sl .bool)) κ))) L (f16.T0 s0 s1 s2) (f16.H0 s0 s1 s2)) x0 := by kernel_rfl
theorem f16.b_eq {R : Type} (L N : Nat) (κ : AV → Option R) (x0 : (List Bool)) :
    evBody (E16 L N) (evCallI (E16 L N) 0 1000) 1000 16 Try.f16 [(.tv (.sl .bool) x0)] [] [] (finC (.one (.sl .bool)) κ)
    = f16.b L N (fun a0 => κ (.tv (.sl .bool) a0)) x0 := by
  rw [f16.b_pre]
  unfold f16.b
  simp only [f16.l0_eq, f16.p0_e0_eq]
theorem f16.s0'_nat {R R' : Type} (j : R → Option R') (L N : Nat) (k0_e0 : (List Bool) → Option R) (rec0 : (List Bool) → Int → (List Bool) → Option R) (s0 : (List Bool)) (s1 : Int) (s2 : (List Bool)) :
    f16.s0' L N (fun a0 => (k0_e0 a0).bind j) (fun a0 a1 a2 => (rec0 a0 a1 a2).bind j) s0 s1 s2 = (f16.s0' L N k0_e0 rec0 s0 s1 s2).bind j := by
  unfold f16.s0'
  repeat' (first | (with_reducible refine cond_nat ?_ ?_) | (with_reducible refine bind_nat fun _ => ?_) | rfl)
theorem f16.s0_nat {R R' : Type} (j : R → Option R') (L N : Nat) (k0_e0 : (List Bool) → Option R) (rec0 : (List Bool) → Int → (List Bool) → Option R) (s0 : (List Bool)) (s1 : Int) (s2 : (List Bool)) :
    f16.s0 L N (fun a0 => (k0_e0 a0).bind j) (fun a0 a1 a2 => (rec0 a0 a1 a2).bind j) s0 s1 s2 = (f16.s0 L N k0_e0 rec0 s0 s1 s2).bind j := by
  unfold f16.s0
  exact f16.s0'_nat ..
theorem f16.l0_nat {R R' : Type} (j : R → Option R') (L N : Nat) (k0_e0 : (List Bool) → Option R) : ∀ (n : Nat) (s0 : (List Bool)) (s1 : Int) (s2 : (List Bool)),
    f16.l0 L N (fun a0 => (k0_e0 a0).bind j) n s0 s1 s2 = (f16.l0 L N k0_e0 n s0 s1 s2).bind j := by
  intro n
  induction n with
  | zero => intros; rfl
  | succ n ih =>
    intro s0 s1 s2
    show f16.s0 L N (fun a0 => (k0_e0 a0).bind j) (f16.l0 L N (fun a0 => (k0_e0 a0).bind j) n) s0 s1 s2 = _
    rw [show f16.l0 L N (fun a0 => (k0_e0 a0).bind j) n = (fun s0 s1 s2 => (f16.l0 L N k0_e0 n s0 s1 s2).bind j) from funext fun s0 => funext fun s1 => funext fun s2 => ih s0 s1 s2]
    exact f16.s0_nat ..
theorem f16.p0_e0'_nat {R R' : Type} (j : R → Option R') (L N : Nat) (k : (List Bool) → Option R) (z3 : (List Bool)) :
    f16.p0_e0' L N (fun a0 => (k a0).bind j) z3 = (f16.p0_e0' L N k z3).bind j := by
  unfold f16.p0_e0'
  repeat' (first | (with_reducible refine cond_nat ?_ ?_) | (with_reducible refine bind_nat fun _ => ?_) | rfl)
theorem f16.p0_e0_nat {R R' : Type} (j : R → Option R') (L N : Nat) (k : (List Bool) → Option R) (z3 : (List Bool)) :
    f16.p0_e0 L N (fun a0 => (k a0).bind j) z3 = (f16.p0_e0 L N k z3).bind j := by
  unfold f16.p0_e0
  exact f16.p0_e0'_nat ..
theorem f16.b'_nat {R R' : Type} (j : R → Option R') (L N : Nat) (k : (List Bool) → Option R) (w0 : (List Bool) → Int → (List Bool) → Option R) (x0 : (List Bool)) :
    f16.b' L N (fun a0 => (k a0).bind j) (fun a0 a1 a2 => (w0 a0 a1 a2).bind j) x0 = (f16.b' L N k w0 x0).bind j := by
  unfold f16.b'
  repeat' (first | (with_reducible refine cond_nat ?_ ?_) | (with_reducible refine bind_nat fun _ => ?_) | rfl)
theorem f16.b_nat {R R' : Type} (j : R → Option R') (L N : Nat) (k : (List Bool) → Option R) (x0 : (List Bool)) :
    f16.b L N (fun a0 => (k a0).bind j) x0 = (f16.b L N k x0).bind j := by
  unfold f16.b
  simp only [f16.l0_nat, f16.p0_e0_nat]
  exact f16.b'_nat ..
theorem f16.ok (L N : Nat) (hΦ : TellsOk Try.prog ((Φ5 L N))) : EntOk Try.prog 16 (f16.ent L N) := by
  intro args vw site h
  unfold f16.ent
  split
  · rename_i d u ha
    intro y hy hs
    refine call_data (dep := 1000) (E := (E16 L N)) (rs := (.one (.sl .bool))) (v' := (.tv (.sl .bool) y)) (sound_of hΦ) okP (callI_sound (sound_of hΦ) okP 0 1000) (f := Try.f16) rfl hs ha ?_ site
    refine (f16.b_eq L N some d.1).trans ?_
    refine ((f16.b_nat (fun y => (some (.tv (.sl .bool) y) : Option AV)) L N some d.1)).trans ?_
    rw [show f16.b L N some d.1 = some y from hy]
    rfl
  · intro y hy
    cases hy
def Φ16 (L N : Nat) : Tells := (addT (Φ5 L N) 16 (f16.ent L N))
theorem Φ16_ok (L N : Nat) : TellsOk Try.prog (Φ16 L N) := addT_ok (Φ5_ok L N) (f16.ok L N (Φ5_ok L N))
def f18.s0' {R : Type} (L N : Nat) (k0_e0 : Option R) (k0_r : Bool → Option R) (rec0 : (List Bool) → (List Bool) → Int → Option R) (s0 : (List Bool)) (s1 : (List Bool)) (s2 : Int) : Option R :=
  bif (decide (s2 < (s0.length : Int))) then
    bif (decide (0 ≤ s2) && decide (s2 < (s0.length : Int))) then
      bif (decide (0 ≤ s2) && decide (s2 < (s1.length : Int))) then
        bif (!((listAt s0 false s2.toNat) == (listAt s1 false s2.toNat))) then
          k0_r false
        else rec0 s0 s1 (wi (s2 + (1 : Int)))
      else none
    else none
  else k0_e0
def f18.s0 {R : Type} (L N : Nat) (k0_e0 : Option R) (k0_r : Bool → Option R) (rec0 : (List Bool) → (List Bool) → Int → Option R) (s0 : (List Bool)) (s1 : (List Bool)) (s2 : Int) : Option R :=
  f18.s0' L N k0_e0 k0_r rec0 s0 s1 s2
def f18.l0 {R : Type} (L N : Nat) (k0_e0 : Option R) (k0_r : Bool → Option R) : Nat → (List Bool) → (List Bool) → Int → Option R
  | 0, _, _, _ => none
  | n + 1, s0, s1, s2 => f18.s0 L N k0_e0 k0_r (f18.l0 L N k0_e0 k0_r n) s0 s1 s2
def f18.T0 (s0 : (List Bool)) (s1 : (List Bool)) (s2 : Int) : T := mkT 26 [(0, (.tv (.sl .bool) s0)), (1, (.tv (.sl .bool) s1)), (5, (.tv i64 s2))]
def f18.H0 (s0 : (List Bool)) (s1 : (List Bool)) (s2 : Int) : H := []
def f18.T0_e0 : T := mkT 26 []
def f18.H0_e0 : H := []
def f18.T0_r (z3 : Bool) : T := mkT 26 [(4, (.tv .bool z3))]
def f18.H0_r (z3 : Bool) : H := []
def f18.p0_e0' {R : Type} (L N : Nat) (k : Bool → Option R) : Option R :=
  k true
def f18.p0_e0 {R : Type} (L N : Nat) (k : Bool → Option R) : Option R :=
  f18.p0_e0' L N k
def f18.p0_r' {R : Type} (L N : Nat) (k : Bool → Option R) (z3 : Bool) : Option R :=
  k z3
def f18.p0_r {R : Type} (L N : Nat) (k : Bool → Option R) (z3 : Bool) : Option R :=
  f18.p0_r' L N k z3
def f18.b' {R : Type} (L N : Nat) (k : Bool → Option R) (w0 : (List Bool) → (List Bool) → Int → Option R) (x0 : (List Bool)) (x1 : (List Bool)) : Option R :=
  bif ((x0.length : Int) != (x1.length : Int)) then
    k false
  else w0 x0 x1 (0 : Int)
def f18.b {R : Type} (L N : Nat) (k : Bool → Option R) (x0 : (List Bool)) (x1 : (List Bool)) : Option R :=
  f18.b' L N k (fun s0 s1 s2 => f18.l0 L N (f18.p0_e0 L N k) (fun z3 => f18.p0_r L N k z3) L s0 s1 s2) x0 x1
def f18 (L N : Nat) (x0 : (List Bool)) (x1 : (List Bool)) : Option (Bool) := f18.b L N some x0 x1
def f18.ent (L N : Nat) (args : List AV) (vw : View) (site : Nat) : Ans := match roD [(.sl .bool), (.sl .bool)] vw args with
  | some d => ⟨Bool, f18 L N d.1 d.2.1, fun y => ((.tv .bool y), [], [])⟩
  | none => Ans.no
noncomputable def E18 (L N : Nat) : Env := { P := Try.prog, ty := tyOf, Φ := (Φ16 L N), inl := fun _ => false, live := lives, liveX := livesX, L := L }
noncomputable def f18.c0 : Code := loopAt 0 (codeOf Try.f18)
theorem f18.s0_pre {R : Type} (L N : Nat) (κ : Ex → T → H → Option R) (rec : T → H → Option R) (s0 : (List Bool)) (s1 : (List Bool)) (s2 : Int) :
    evRd (E18 L N) (evCallI (E18 L N) 0 1000) 1000 18 26 0 f18.c0 κ rec (f18.T0 s0 s1 s2) (f18.H0 s0 s1 s2)
    = f18.s0' L N (κ (.exit 0) f18.T0_e0 f18.H0_e0) (fun z3 => κ .ret (f18.T0_r z3) (f18.H0_r z3)) (fun s0 s1 s2 => rec (f18.T0 s0 s1 s2) (f18.H0 s0 s1 s2)) s0 s1 s2 := by kernel_rfl
theorem f18.s0_eq {R : Type} (L N : Nat) (κ : Ex → T → H → Option R) (rec : T → H → Option R) (s0 : (List Bool)) (s1 : (List Bool)) (s2 : Int) :
    evRd (E18 L N) (evCallI (E18 L N) 0 1000) 1000 18 26 0 f18.c0 κ rec (f18.T0 s0 s1 s2) (f18.H0 s0 s1 s2)
    = f18.s0 L N (κ (.exit 0) f18.T0_e0 f18.H0_e0) (fun z3 => κ .ret (f18.T0_r z3) (f18.H0_r z3)) (fun s0 s1 s2 => rec (f18.T0 s0 s1 s2) (f18.H0 s0 s1 s2)) s0 s1 s2 := by
  rw [f18.s0_pre]
  unfold f18.s0
  rfl
theorem f18.l0_eq {R : Type} (L N : Nat) (κ : Ex → T → H → Option R) : ∀ (n : Nat) (s0 : (List Bool)) (s1 : (List Bool)) (s2 : Int),
    evLp (E18 L N) (evCallI (E18 L N) 0 1000) 1000 18 26 0 f18.c0 κ n (f18.T0 s0 s1 s2) (f18.H0 s0 s1 s2)
    = f18.l0 L N (κ (.exit 0) f18.T0_e0 f18.H0_e0) (fun z3 => κ .ret (f18.T0_r z3) (f18.H0_r z3)) n s0 s1 s2 := by
  intro n
  induction n with
  | zero => intros; rfl
  | succ n ih =>
    intro s0 s1 s2
    rw [evLp_succ, f18.s0_eq]
    simp only [ih]
    rfl
theorem f18.p0_e0_pre {R : Type} (L N : Nat) (κ : AV → Option R) :
    (contAt (E18 L N) (evCallI (E18 L N) 0 1000) 1000 18 26 0 (codeOf Try.f18) (finK (E18 L N) 1000 Try.f18 (finC (.one .bool) κ))) (.exit 0) f18.T0_e0 f18.H0_e0
    = f18.p0_e0' L N (fun a0 => κ (.tv .bool a0)) := by kernel_rfl
theorem f18.p0_e0_eq {R : Type} (L N : Nat) (κ : AV → Option R) :
    (contAt (E18 L N) (evCallI (E18 L N) 0 1000) 1000 18 26 0 (codeOf Try.f18) (finK (E18 L N) 1000 Try.f18 (finC (.one .bool) κ))) (.exit 0) f18.T0_e0 f18.H0_e0
    = f18.p0_e0 L N (fun a0 => κ (.tv .bool a0)) := by
  rw [f18.p0_e0_pre]
  unfold f18.p0_e0
  rfl
theorem f18.p0_r_pre {R : Type} (L N : Nat) (κ : AV → Option R) (z3 : Bool) :
    (contAt (E18 L N) (evCallI (E18 L N) 0 1000) 1000 18 26 0 (codeOf Try.f18) (finK (E18 L N) 1000 Try.f18 (finC (.one .bool) κ))) .ret (f18.T0_r z3) (f18.H0_r z3)
    = f18.p0_r' L N (fun a0 => κ (.tv .bool a0)) z3 := by kernel_rfl
theorem f18.p0_r_eq {R : Type} (L N : Nat) (κ : AV → Option R) (z3 : Bool) :
    (contAt (E18 L N) (evCallI (E18 L N) 0 1000) 1000 18 26 0 (codeOf Try.f18) (finK (E18 L N) 1000 Try.f18 (finC (.one .bool) κ))) .ret (f18.T0_r z3) (f18.H0_r z3)
    = f18.p0_r L N (fun a0 => κ (.tv .bool a0)) z3 := by
  rw [f18.p0_r_pre]
  unfold f18.p0_r
  rfl
theorem f18.b_pre {R : Type} (L N : Nat) (κ : AV → Option R) (x0 : (List Bool)) (x1 : (List Bool)) :
    evBody (E18 L N) (evCallI (E18 L N) 0 1000) 1000 18 Try.f18 [(.tv (.sl .bool) x0), (.tv (.sl .bool) x1)] [] [] (finC (.one .bool) κ)
    = f18.b' L N (fun a0 => κ (.tv .bool a0)) (fun s0 s1 s2 => evLp (E18 L N) (evCallI (E18 L N) 0 1000) 1000 18 26 0 f18.c0 (contAt (E18 L N) (evCallI (E18 L N) 0 1000) 1000 18 26 0 (codeOf Try.f18) (finK (E18 L N) 1000 Try.f18 (finC (.one .bool) κ))) L (f18.T0 s0 s1 s2) (f18.H0 s0 s1 s2)) x0 x1 := by kernel_rfl
theorem f18.b_eq {R : Type} (L N : Nat) (κ : AV → Option R) (x0 : (List Bool)) (x1 : (List Bool)) :
    evBody (E18 L N) (evCallI (E18 L N) 0 1000) 1000 18 Try.f18 [(.tv (.sl .bool) x0), (.tv (.sl .bool) x1)] [] [] (finC (.one .bool) κ)
    = f18.b L N (fun a0 => κ (.tv .bool a0)) x0 x1 := by
  rw [f18.b_pre]
  unfold f18.b
  simp only [f18.l0_eq, f18.p0_e0_eq, f18.p0_r_eq]
theorem f18.s0'_nat {R R' : Type} (j : R → Option R') (L N : Nat) (k0_e0 : Option R) (k0_r : Bool → Option R) (rec0 : (List Bool) → (List Bool) → Int → Option R) (s0 : (List Bool)) (s1 : (List Bool)) (s2 : Int) :
    f18.s0' L N (k0_e0.bind j) (fun a0 => (k0_r a0).bind j) (fun a0 a1 a2 => (rec0 a0 a1 a2).bind j) s0 s1 s2 = (f18.s0' L N k0_e0 k0_r rec0 s0 s1 s2).bind j := by
  unfold f18.s0'
  repeat' (first | (with_reducible refine cond_nat ?_ ?_) | (with_reducible refine bind_nat fun _ => ?_) | rfl)
theorem f18.s0_nat {R R' : Type} (j : R → Option R') (L N : Nat) (k0_e0 : Option R) (k0_r : Bool → Option R) (rec0 : (List Bool) → (List Bool) → Int → Option R) (s0 : (List Bool)) (s1 : (List Bool)) (s2 : Int) :
    f18.s0 L N (k0_e0.bind j) (fun a0 => (k0_r a0).bind j) (fun a0 a1 a2 => (rec0 a0 a1 a2).bind j) s0 s1 s2 = (f18.s0 L N k0_e0 k0_r rec0 s0 s1 s2).bind j := by
  unfold f18.s0
  exact f18.s0'_nat ..
theorem f18.l0_nat {R R' : Type} (j : R → Option R') (L N : Nat) (k0_e0 : Option R) (k0_r : Bool → Option R) : ∀ (n : Nat) (s0 : (List Bool)) (s1 : (List Bool)) (s2 : Int),
    f18.l0 L N (k0_e0.bind j) (fun a0 => (k0_r a0).bind j) n s0 s1 s2 = (f18.l0 L N k0_e0 k0_r n s0 s1 s2).bind j := by
  intro n
  induction n with
  | zero => intros; rfl
  | succ n ih =>
    intro s0 s1 s2
    show f18.s0 L N (k0_e0.bind j) (fun a0 => (k0_r a0).bind j) (f18.l0 L N (k0_e0.bind j) (fun a0 => (k0_r a0).bind j) n) s0 s1 s2 = _
    rw [show f18.l0 L N (k0_e0.bind j) (fun a0 => (k0_r a0).bind j) n = (fun s0 s1 s2 => (f18.l0 L N k0_e0 k0_r n s0 s1 s2).bind j) from funext fun s0 => funext fun s1 => funext fun s2 => ih s0 s1 s2]
    exact f18.s0_nat ..
theorem f18.p0_e0'_nat {R R' : Type} (j : R → Option R') (L N : Nat) (k : Bool → Option R) :
    f18.p0_e0' L N (fun a0 => (k a0).bind j) = (f18.p0_e0' L N k).bind j := by
  unfold f18.p0_e0'
  repeat' (first | (with_reducible refine cond_nat ?_ ?_) | (with_reducible refine bind_nat fun _ => ?_) | rfl)
theorem f18.p0_e0_nat {R R' : Type} (j : R → Option R') (L N : Nat) (k : Bool → Option R) :
    f18.p0_e0 L N (fun a0 => (k a0).bind j) = (f18.p0_e0 L N k).bind j := by
  unfold f18.p0_e0
  exact f18.p0_e0'_nat ..
theorem f18.p0_r'_nat {R R' : Type} (j : R → Option R') (L N : Nat) (k : Bool → Option R) (z3 : Bool) :
    f18.p0_r' L N (fun a0 => (k a0).bind j) z3 = (f18.p0_r' L N k z3).bind j := by
  unfold f18.p0_r'
  repeat' (first | (with_reducible refine cond_nat ?_ ?_) | (with_reducible refine bind_nat fun _ => ?_) | rfl)
theorem f18.p0_r_nat {R R' : Type} (j : R → Option R') (L N : Nat) (k : Bool → Option R) (z3 : Bool) :
    f18.p0_r L N (fun a0 => (k a0).bind j) z3 = (f18.p0_r L N k z3).bind j := by
  unfold f18.p0_r
  exact f18.p0_r'_nat ..
theorem f18.b'_nat {R R' : Type} (j : R → Option R') (L N : Nat) (k : Bool → Option R) (w0 : (List Bool) → (List Bool) → Int → Option R) (x0 : (List Bool)) (x1 : (List Bool)) :
    f18.b' L N (fun a0 => (k a0).bind j) (fun a0 a1 a2 => (w0 a0 a1 a2).bind j) x0 x1 = (f18.b' L N k w0 x0 x1).bind j := by
  unfold f18.b'
  repeat' (first | (with_reducible refine cond_nat ?_ ?_) | (with_reducible refine bind_nat fun _ => ?_) | rfl)
theorem f18.b_nat {R R' : Type} (j : R → Option R') (L N : Nat) (k : Bool → Option R) (x0 : (List Bool)) (x1 : (List Bool)) :
    f18.b L N (fun a0 => (k a0).bind j) x0 x1 = (f18.b L N k x0 x1).bind j := by
  unfold f18.b
  simp only [f18.l0_nat, f18.p0_e0_nat, f18.p0_r_nat]
  exact f18.b'_nat ..
theorem f18.ok (L N : Nat) (hΦ : TellsOk Try.prog ((Φ16 L N))) : EntOk Try.prog 18 (f18.ent L N) := by
  intro args vw site h
  unfold f18.ent
  split
  · rename_i d ha
    intro y hy hs
    refine call_ro (dep := 1000) (E := (E18 L N)) (rs := (.one .bool)) (v := (.tv .bool y)) (sound_of hΦ) okP (callI_sound (sound_of hΦ) okP 0 1000) (f := Try.f18) rfl hs ha ?_ rfl site
    refine (f18.b_eq L N some d.1 d.2.1).trans ?_
    refine ((f18.b_nat (fun y => (some (.tv .bool y) : Option AV)) L N some d.1 d.2.1)).trans ?_
    rw [show f18.b L N some d.1 d.2.1 = some y from hy]
    rfl
  · intro y hy
    cases hy
def Φ18 (L N : Nat) : Tells := (addT (Φ16 L N) 18 (f18.ent L N))
theorem Φ18_ok (L N : Nat) : TellsOk Try.prog (Φ18 L N) := addT_ok (Φ16_ok L N) (f18.ok L N (Φ16_ok L N))
def f78.b' {R : Type} (L N : Nat) (k : Int → Option R) (x0 : (List Move)) (x1 : Int) : Option R :=
  bif (decide ((wi (x1 - (x0.length : Int))) < (0 : Int))) then
    k (-1 : Int)
  else k (wi (x1 - (x0.length : Int)))
def f78.b {R : Type} (L N : Nat) (k : Int → Option R) (x0 : (List Move)) (x1 : Int) : Option R :=
  f78.b' L N k x0 x1
def f78 (L N : Nat) (x0 : (List Move)) (x1 : Int) : Option (Int) := f78.b L N some x0 x1
def f78.ent (L N : Nat) (args : List AV) (vw : View) (site : Nat) : Ans := match roD [(.sl (.st 0)), i64] vw args with
  | some d => ⟨Int, f78 L N d.1 d.2.1, fun y => ((.tv i64 y), [], [])⟩
  | none => Ans.no
noncomputable def E78 (L N : Nat) : Env := { P := Try.prog, ty := tyOf, Φ := (Φ18 L N), inl := fun _ => false, live := lives, liveX := livesX, L := L }
theorem f78.b_pre {R : Type} (L N : Nat) (κ : AV → Option R) (x0 : (List Move)) (x1 : Int) :
    evBody (E78 L N) (evCallI (E78 L N) 0 1000) 1000 78 Try.f78 [(.tv (.sl (.st 0)) x0), (.tv i64 x1)] [] [] (finC (.one i64) κ)
    = f78.b' L N (fun a0 => κ (.tv i64 a0)) x0 x1 := by kernel_rfl
theorem f78.b_eq {R : Type} (L N : Nat) (κ : AV → Option R) (x0 : (List Move)) (x1 : Int) :
    evBody (E78 L N) (evCallI (E78 L N) 0 1000) 1000 78 Try.f78 [(.tv (.sl (.st 0)) x0), (.tv i64 x1)] [] [] (finC (.one i64) κ)
    = f78.b L N (fun a0 => κ (.tv i64 a0)) x0 x1 := by
  rw [f78.b_pre]
  unfold f78.b
  rfl
theorem f78.b'_nat {R R' : Type} (j : R → Option R') (L N : Nat) (k : Int → Option R) (x0 : (List Move)) (x1 : Int) :
    f78.b' L N (fun a0 => (k a0).bind j) x0 x1 = (f78.b' L N k x0 x1).bind j := by
  unfold f78.b'
  repeat' (first | (with_reducible refine cond_nat ?_ ?_) | (with_reducible refine bind_nat fun _ => ?_) | rfl)
theorem f78.b_nat {R R' : Type} (j : R → Option R') (L N : Nat) (k : Int → Option R) (x0 : (List Move)) (x1 : Int) :
    f78.b L N (fun a0 => (k a0).bind j) x0 x1 = (f78.b L N k x0 x1).bind j := by
  unfold f78.b
  exact f78.b'_nat ..
theorem f78.ok (L N : Nat) (hΦ : TellsOk Try.prog ((Φ18 L N))) : EntOk Try.prog 78 (f78.ent L N) := by
  intro args vw site h
  unfold f78.ent
  split
  · rename_i d ha
    intro y hy hs
    refine call_ro (dep := 1000) (E := (E78 L N)) (rs := (.one i64)) (v := (.tv i64 y)) (sound_of hΦ) okP (callI_sound (sound_of hΦ) okP 0 1000) (f := Try.f78) rfl hs ha ?_ rfl site
    refine (f78.b_eq L N some d.1 d.2.1).trans ?_
    refine ((f78.b_nat (fun y => (some (.tv i64 y) : Option AV)) L N some d.1 d.2.1)).trans ?_
    rw [show f78.b L N some d.1 d.2.1 = some y from hy]
    rfl
  · intro y hy
    cases hy
def Φ78 (L N : Nat) : Tells := (addT (Φ18 L N) 78 (f78.ent L N))
theorem Φ78_ok (L N : Nat) : TellsOk Try.prog (Φ78 L N) := addT_ok (Φ18_ok L N) (f78.ok L N (Φ18_ok L N))
def f61.s0' {R : Type} (L N : Nat) (k0_e0 : Int → Option R) (k0_r : Int → Int → Option R) (rec0 : (List (List Move)) → Int → Int → Option R) (s0 : (List (List Move))) (s1 : Int) (s2 : Int) : Option R :=
  bif (decide (s2 < (s0.length : Int))) then
    bif (decide (0 ≤ s2) && decide (s2 < (s0.length : Int))) then
      (f78 L N (listAt s0 [] s2.toNat) s1).bind fun y4 =>
      bif (decide (y4 < (0 : Int))) then
        k0_r y4 (-1 : Int)
      else rec0 s0 y4 (wi (s2 + (1 : Int)))
    else none
  else k0_e0 s1
def f61.s0 {R : Type} (L N : Nat) (k0_e0 : Int → Option R) (k0_r : Int → Int → Option R) (rec0 : (List (List Move)) → Int → Int → Option R) (s0 : (List (List Move))) (s1 : Int) (s2 : Int) : Option R :=
  f61.s0' L N k0_e0 k0_r rec0 s0 s1 s2
def f61.l0 {R : Type} (L N : Nat) (k0_e0 : Int → Option R) (k0_r : Int → Int → Option R) : Nat → (List (List Move)) → Int → Int → Option R
  | 0, _, _, _ => none
  | n + 1, s0, s1, s2 => f61.s0 L N k0_e0 k0_r (f61.l0 L N k0_e0 k0_r n) s0 s1 s2
def f61.T0 (s0 : (List (List Move))) (s1 : Int) (s2 : Int) : T := mkT 27 [(0, (.tv (.sl (.sl (.st 0))) s0)), (1, (.tv i64 s1)), (5, (.tv i64 s2))]
def f61.H0 (s0 : (List (List Move))) (s1 : Int) (s2 : Int) : H := []
def f61.T0_e0 (z3 : Int) : T := mkT 27 [(1, (.tv i64 z3))]
def f61.H0_e0 (z3 : Int) : H := []
def f61.T0_r (z5 : Int) (z6 : Int) : T := mkT 27 [(1, (.tv i64 z5)), (4, (.tv i64 z6))]
def f61.H0_r (z5 : Int) (z6 : Int) : H := []
def f61.p0_e0' {R : Type} (L N : Nat) (k : Int → Option R) (z3 : Int) : Option R :=
  k z3
def f61.p0_e0 {R : Type} (L N : Nat) (k : Int → Option R) (z3 : Int) : Option R :=
  f61.p0_e0' L N k z3
def f61.p0_r' {R : Type} (L N : Nat) (k : Int → Option R) (z5 : Int) (z6 : Int) : Option R :=
  k z6
def f61.p0_r {R : Type} (L N : Nat) (k : Int → Option R) (z5 : Int) (z6 : Int) : Option R :=
  f61.p0_r' L N k z5 z6
def f61.b' {R : Type} (L N : Nat) (k : Int → Option R) (w0 : (List (List Move)) → Int → Int → Option R) (x0 : (List (List Move))) (x1 : Int) : Option R :=
  bif (decide ((wi (x1 - (x0.length : Int))) < (0 : Int))) then
    k (-1 : Int)
  else w0 x0 (wi (x1 - (x0.length : Int))) (0 : Int)
def f61.b {R : Type} (L N : Nat) (k : Int → Option R) (x0 : (List (List Move))) (x1 : Int) : Option R :=
  f61.b' L N k (fun s0 s1 s2 => f61.l0 L N (fun z3 => f61.p0_e0 L N k z3) (fun z5 z6 => f61.p0_r L N k z5 z6) L s0 s1 s2) x0 x1
def f61 (L N : Nat) (x0 : (List (List Move))) (x1 : Int) : Option (Int) := f61.b L N some x0 x1
def f61.ent (L N : Nat) (args : List AV) (vw : View) (site : Nat) : Ans := match roD [(.sl (.sl (.st 0))), i64] vw args with
  | some d => ⟨Int, f61 L N d.1 d.2.1, fun y => ((.tv i64 y), [], [])⟩
  | none => Ans.no
noncomputable def E61 (L N : Nat) : Env := { P := Try.prog, ty := tyOf, Φ := (Φ78 L N), inl := fun _ => false, live := lives, liveX := livesX, L := L }
noncomputable def f61.c0 : Code := loopAt 0 (codeOf Try.f61)
theorem f61.s0_pre {R : Type} (L N : Nat) (κ : Ex → T → H → Option R) (rec : T → H → Option R) (s0 : (List (List Move))) (s1 : Int) (s2 : Int) :
    evRd (E61 L N) (evCallI (E61 L N) 0 1000) 1000 61 27 0 f61.c0 κ rec (f61.T0 s0 s1 s2) (f61.H0 s0 s1 s2)
    = f61.s0' L N (fun z3 => κ (.exit 0) (f61.T0_e0 z3) (f61.H0_e0 z3)) (fun z5 z6 => κ .ret (f61.T0_r z5 z6) (f61.H0_r z5 z6)) (fun s0 s1 s2 => rec (f61.T0 s0 s1 s2) (f61.H0 s0 s1 s2)) s0 s1 s2 := by kernel_rfl
theorem f61.s0_eq {R : Type} (L N : Nat) (κ : Ex → T → H → Option R) (rec : T → H → Option R) (s0 : (List (List Move))) (s1 : Int) (s2 : Int) :
    evRd (E61 L N) (evCallI (E61 L N) 0 1000) 1000 61 27 0 f61.c0 κ rec (f61.T0 s0 s1 s2) (f61.H0 s0 s1 s2)
    = f61.s0 L N (fun z3 => κ (.exit 0) (f61.T0_e0 z3) (f61.H0_e0 z3)) (fun z5 z6 => κ .ret (f61.T0_r z5 z6) (f61.H0_r z5 z6)) (fun s0 s1 s2 => rec (f61.T0 s0 s1 s2) (f61.H0 s0 s1 s2)) s0 s1 s2 := by
  rw [f61.s0_pre]
  unfold f61.s0
  rfl
theorem f61.l0_eq {R : Type} (L N : Nat) (κ : Ex → T → H → Option R) : ∀ (n : Nat) (s0 : (List (List Move))) (s1 : Int) (s2 : Int),
    evLp (E61 L N) (evCallI (E61 L N) 0 1000) 1000 61 27 0 f61.c0 κ n (f61.T0 s0 s1 s2) (f61.H0 s0 s1 s2)
    = f61.l0 L N (fun z3 => κ (.exit 0) (f61.T0_e0 z3) (f61.H0_e0 z3)) (fun z5 z6 => κ .ret (f61.T0_r z5 z6) (f61.H0_r z5 z6)) n s0 s1 s2 := by
  intro n
  induction n with
  | zero => intros; rfl
  | succ n ih =>
    intro s0 s1 s2
    rw [evLp_succ, f61.s0_eq]
    simp only [ih]
    rfl
theorem f61.p0_e0_pre {R : Type} (L N : Nat) (κ : AV → Option R) (z3 : Int) :
    (contAt (E61 L N) (evCallI (E61 L N) 0 1000) 1000 61 27 0 (codeOf Try.f61) (finK (E61 L N) 1000 Try.f61 (finC (.one i64) κ))) (.exit 0) (f61.T0_e0 z3) (f61.H0_e0 z3)
    = f61.p0_e0' L N (fun a0 => κ (.tv i64 a0)) z3 := by kernel_rfl
theorem f61.p0_e0_eq {R : Type} (L N : Nat) (κ : AV → Option R) (z3 : Int) :
    (contAt (E61 L N) (evCallI (E61 L N) 0 1000) 1000 61 27 0 (codeOf Try.f61) (finK (E61 L N) 1000 Try.f61 (finC (.one i64) κ))) (.exit 0) (f61.T0_e0 z3) (f61.H0_e0 z3)
    = f61.p0_e0 L N (fun a0 => κ (.tv i64 a0)) z3 := by
  rw [f61.p0_e0_pre]
  unfold f61.p0_e0
  rfl
theorem f61.p0_r_pre {R : Type} (L N : Nat) (κ : AV → Option R) (z5 : Int) (z6 : Int) :
    (contAt (E61 L N) (evCallI (E61 L N) 0 1000) 1000 61 27 0 (codeOf Try.f61) (finK (E61 L N) 1000 Try.f61 (finC (.one i64) κ))) .ret (f61.T0_r z5 z6) (f61.H0_r z5 z6)
    = f61.p0_r' L N (fun a0 => κ (.tv i64 a0)) z5 z6 := by kernel_rfl
theorem f61.p0_r_eq {R : Type} (L N : Nat) (κ : AV → Option R) (z5 : Int) (z6 : Int) :
    (contAt (E61 L N) (evCallI (E61 L N) 0 1000) 1000 61 27 0 (codeOf Try.f61) (finK (E61 L N) 1000 Try.f61 (finC (.one i64) κ))) .ret (f61.T0_r z5 z6) (f61.H0_r z5 z6)
    = f61.p0_r L N (fun a0 => κ (.tv i64 a0)) z5 z6 := by
  rw [f61.p0_r_pre]
  unfold f61.p0_r
  rfl
theorem f61.b_pre {R : Type} (L N : Nat) (κ : AV → Option R) (x0 : (List (List Move))) (x1 : Int) :
    evBody (E61 L N) (evCallI (E61 L N) 0 1000) 1000 61 Try.f61 [(.tv (.sl (.sl (.st 0))) x0), (.tv i64 x1)] [] [] (finC (.one i64) κ)
    = f61.b' L N (fun a0 => κ (.tv i64 a0)) (fun s0 s1 s2 => evLp (E61 L N) (evCallI (E61 L N) 0 1000) 1000 61 27 0 f61.c0 (contAt (E61 L N) (evCallI (E61 L N) 0 1000) 1000 61 27 0 (codeOf Try.f61) (finK (E61 L N) 1000 Try.f61 (finC (.one i64) κ))) L (f61.T0 s0 s1 s2) (f61.H0 s0 s1 s2)) x0 x1 := by kernel_rfl
theorem f61.b_eq {R : Type} (L N : Nat) (κ : AV → Option R) (x0 : (List (List Move))) (x1 : Int) :
    evBody (E61 L N) (evCallI (E61 L N) 0 1000) 1000 61 Try.f61 [(.tv (.sl (.sl (.st 0))) x0), (.tv i64 x1)] [] [] (finC (.one i64) κ)
    = f61.b L N (fun a0 => κ (.tv i64 a0)) x0 x1 := by
  rw [f61.b_pre]
  unfold f61.b
  simp only [f61.l0_eq, f61.p0_e0_eq, f61.p0_r_eq]
theorem f61.s0'_nat {R R' : Type} (j : R → Option R') (L N : Nat) (k0_e0 : Int → Option R) (k0_r : Int → Int → Option R) (rec0 : (List (List Move)) → Int → Int → Option R) (s0 : (List (List Move))) (s1 : Int) (s2 : Int) :
    f61.s0' L N (fun a0 => (k0_e0 a0).bind j) (fun a0 a1 => (k0_r a0 a1).bind j) (fun a0 a1 a2 => (rec0 a0 a1 a2).bind j) s0 s1 s2 = (f61.s0' L N k0_e0 k0_r rec0 s0 s1 s2).bind j := by
  unfold f61.s0'
  repeat' (first | (with_reducible refine cond_nat ?_ ?_) | (with_reducible refine bind_nat fun _ => ?_) | rfl)
theorem f61.s0_nat {R R' : Type} (j : R → Option R') (L N : Nat) (k0_e0 : Int → Option R) (k0_r : Int → Int → Option R) (rec0 : (List (List Move)) → Int → Int → Option R) (s0 : (List (List Move))) (s1 : Int) (s2 : Int) :
    f61.s0 L N (fun a0 => (k0_e0 a0).bind j) (fun a0 a1 => (k0_r a0 a1).bind j) (fun a0 a1 a2 => (rec0 a0 a1 a2).bind j) s0 s1 s2 = (f61.s0 L N k0_e0 k0_r rec0 s0 s1 s2).bind j := by
  unfold f61.s0
  exact f61.s0'_nat ..
theorem f61.l0_nat {R R' : Type} (j : R → Option R') (L N : Nat) (k0_e0 : Int → Option R) (k0_r : Int → Int → Option R) : ∀ (n : Nat) (s0 : (List (List Move))) (s1 : Int) (s2 : Int),
    f61.l0 L N (fun a0 => (k0_e0 a0).bind j) (fun a0 a1 => (k0_r a0 a1).bind j) n s0 s1 s2 = (f61.l0 L N k0_e0 k0_r n s0 s1 s2).bind j := by
  intro n
  induction n with
  | zero => intros; rfl
  | succ n ih =>
    intro s0 s1 s2
    show f61.s0 L N (fun a0 => (k0_e0 a0).bind j) (fun a0 a1 => (k0_r a0 a1).bind j) (f61.l0 L N (fun a0 => (k0_e0 a0).bind j) (fun a0 a1 => (k0_r a0 a1).bind j) n) s0 s1 s2 = _
    rw [show f61.l0 L N (fun a0 => (k0_e0 a0).bind j) (fun a0 a1 => (k0_r a0 a1).bind j) n = (fun s0 s1 s2 => (f61.l0 L N k0_e0 k0_r n s0 s1 s2).bind j) from funext fun s0 => funext fun s1 => funext fun s2 => ih s0 s1 s2]
    exact f61.s0_nat ..
theorem f61.p0_e0'_nat {R R' : Type} (j : R → Option R') (L N : Nat) (k : Int → Option R) (z3 : Int) :
    f61.p0_e0' L N (fun a0 => (k a0).bind j) z3 = (f61.p0_e0' L N k z3).bind j := by
  unfold f61.p0_e0'
  repeat' (first | (with_reducible refine cond_nat ?_ ?_) | (with_reducible refine bind_nat fun _ => ?_) | rfl)
theorem f61.p0_e0_nat {R R' : Type} (j : R → Option R') (L N : Nat) (k : Int → Option R) (z3 : Int) :
    f61.p0_e0 L N (fun a0 => (k a0).bind j) z3 = (f61.p0_e0 L N k z3).bind j := by
  unfold f61.p0_e0
  exact f61.p0_e0'_nat ..
theorem f61.p0_r'_nat {R R' : Type} (j : R → Option R') (L N : Nat) (k : Int → Option R) (z5 : Int) (z6 : Int) :
    f61.p0_r' L N (fun a0 => (k a0).bind j) z5 z6 = (f61.p0_r' L N k z5 z6).bind j := by
  unfold f61.p0_r'
  repeat' (first | (with_reducible refine cond_nat ?_ ?_) | (with_reducible refine bind_nat fun _ => ?_) | rfl)
theorem f61.p0_r_nat {R R' : Type} (j : R → Option R') (L N : Nat) (k : Int → Option R) (z5 : Int) (z6 : Int) :
    f61.p0_r L N (fun a0 => (k a0).bind j) z5 z6 = (f61.p0_r L N k z5 z6).bind j := by
  unfold f61.p0_r
  exact f61.p0_r'_nat ..
theorem f61.b'_nat {R R' : Type} (j : R → Option R') (L N : Nat) (k : Int → Option R) (w0 : (List (List Move)) → Int → Int → Option R) (x0 : (List (List Move))) (x1 : Int) :
    f61.b' L N (fun a0 => (k a0).bind j) (fun a0 a1 a2 => (w0 a0 a1 a2).bind j) x0 x1 = (f61.b' L N k w0 x0 x1).bind j := by
  unfold f61.b'
  repeat' (first | (with_reducible refine cond_nat ?_ ?_) | (with_reducible refine bind_nat fun _ => ?_) | rfl)
theorem f61.b_nat {R R' : Type} (j : R → Option R') (L N : Nat) (k : Int → Option R) (x0 : (List (List Move))) (x1 : Int) :
    f61.b L N (fun a0 => (k a0).bind j) x0 x1 = (f61.b L N k x0 x1).bind j := by
  unfold f61.b
  simp only [f61.l0_nat, f61.p0_e0_nat, f61.p0_r_nat]
  exact f61.b'_nat ..
theorem f61.ok (L N : Nat) (hΦ : TellsOk Try.prog ((Φ78 L N))) : EntOk Try.prog 61 (f61.ent L N) := by
  intro args vw site h
  unfold f61.ent
  split
  · rename_i d ha
    intro y hy hs
    refine call_ro (dep := 1000) (E := (E61 L N)) (rs := (.one i64)) (v := (.tv i64 y)) (sound_of hΦ) okP (callI_sound (sound_of hΦ) okP 0 1000) (f := Try.f61) rfl hs ha ?_ rfl site
    refine (f61.b_eq L N some d.1 d.2.1).trans ?_
    refine ((f61.b_nat (fun y => (some (.tv i64 y) : Option AV)) L N some d.1 d.2.1)).trans ?_
    rw [show f61.b L N some d.1 d.2.1 = some y from hy]
    rfl
  · intro y hy
    cases hy
def Φ61 (L N : Nat) : Tells := (addT (Φ78 L N) 61 (f61.ent L N))
theorem Φ61_ok (L N : Nat) : TellsOk Try.prog (Φ61 L N) := addT_ok (Φ78_ok L N) (f61.ok L N (Φ78_ok L N))
def f36.b' {R : Type} (L N : Nat) (k : Int → Option R) (x0 : Graph) (x1 : Int) : Option R :=
  (f61 L N x0.moves x1).bind fun y0 =>
  bif (decide (y0 < (0 : Int))) then
    k (-1 : Int)
  else k y0
def f36.b {R : Type} (L N : Nat) (k : Int → Option R) (x0 : Graph) (x1 : Int) : Option R :=
  f36.b' L N k x0 x1
def f36 (L N : Nat) (x0 : Graph) (x1 : Int) : Option (Int) := f36.b L N some x0 x1
def f36.ent (L N : Nat) (args : List AV) (vw : View) (site : Nat) : Ans := match roD [(.st 2), i64] vw args with
  | some d => ⟨Int, f36 L N d.1 d.2.1, fun y => ((.tv i64 y), [], [])⟩
  | none => Ans.no
noncomputable def E36 (L N : Nat) : Env := { P := Try.prog, ty := tyOf, Φ := (Φ61 L N), inl := fun _ => false, live := lives, liveX := livesX, L := L }
theorem f36.b_pre {R : Type} (L N : Nat) (κ : AV → Option R) (x0 : Graph) (x1 : Int) :
    evBody (E36 L N) (evCallI (E36 L N) 0 1000) 1000 36 Try.f36 [(.tv (.st 2) x0), (.tv i64 x1)] [] [] (finC (.one i64) κ)
    = f36.b' L N (fun a0 => κ (.tv i64 a0)) x0 x1 := by kernel_rfl
theorem f36.b_eq {R : Type} (L N : Nat) (κ : AV → Option R) (x0 : Graph) (x1 : Int) :
    evBody (E36 L N) (evCallI (E36 L N) 0 1000) 1000 36 Try.f36 [(.tv (.st 2) x0), (.tv i64 x1)] [] [] (finC (.one i64) κ)
    = f36.b L N (fun a0 => κ (.tv i64 a0)) x0 x1 := by
  rw [f36.b_pre]
  unfold f36.b
  rfl
theorem f36.b'_nat {R R' : Type} (j : R → Option R') (L N : Nat) (k : Int → Option R) (x0 : Graph) (x1 : Int) :
    f36.b' L N (fun a0 => (k a0).bind j) x0 x1 = (f36.b' L N k x0 x1).bind j := by
  unfold f36.b'
  repeat' (first | (with_reducible refine cond_nat ?_ ?_) | (with_reducible refine bind_nat fun _ => ?_) | rfl)
theorem f36.b_nat {R R' : Type} (j : R → Option R') (L N : Nat) (k : Int → Option R) (x0 : Graph) (x1 : Int) :
    f36.b L N (fun a0 => (k a0).bind j) x0 x1 = (f36.b L N k x0 x1).bind j := by
  unfold f36.b
  exact f36.b'_nat ..
theorem f36.ok (L N : Nat) (hΦ : TellsOk Try.prog ((Φ61 L N))) : EntOk Try.prog 36 (f36.ent L N) := by
  intro args vw site h
  unfold f36.ent
  split
  · rename_i d ha
    intro y hy hs
    refine call_ro (dep := 1000) (E := (E36 L N)) (rs := (.one i64)) (v := (.tv i64 y)) (sound_of hΦ) okP (callI_sound (sound_of hΦ) okP 0 1000) (f := Try.f36) rfl hs ha ?_ rfl site
    refine (f36.b_eq L N some d.1 d.2.1).trans ?_
    refine ((f36.b_nat (fun y => (some (.tv i64 y) : Option AV)) L N some d.1 d.2.1)).trans ?_
    rw [show f36.b L N some d.1 d.2.1 = some y from hy]
    rfl
  · intro y hy
    cases hy
def Φ36 (L N : Nat) : Tells := (addT (Φ61 L N) 36 (f36.ent L N))
theorem Φ36_ok (L N : Nat) : TellsOk Try.prog (Φ36 L N) := addT_ok (Φ61_ok L N) (f36.ok L N (Φ61_ok L N))
def f15.b' {R : Type} (L N : Nat) (k : Bool → Option R) (x0 : (List Bool)) : Option R :=
  k ((x0.length : Int) == (8 : Int))
def f15.b {R : Type} (L N : Nat) (k : Bool → Option R) (x0 : (List Bool)) : Option R :=
  f15.b' L N k x0
def f15 (L N : Nat) (x0 : (List Bool)) : Option (Bool) := f15.b L N some x0
def f15.ent (L N : Nat) (args : List AV) (vw : View) (site : Nat) : Ans := match roD [(.sl .bool)] vw args with
  | some d => ⟨Bool, f15 L N d.1, fun y => ((.tv .bool y), [], [])⟩
  | none => Ans.no
noncomputable def E15 (L N : Nat) : Env := { P := Try.prog, ty := tyOf, Φ := (Φ36 L N), inl := fun _ => false, live := lives, liveX := livesX, L := L }
theorem f15.b_pre {R : Type} (L N : Nat) (κ : AV → Option R) (x0 : (List Bool)) :
    evBody (E15 L N) (evCallI (E15 L N) 0 1000) 1000 15 Try.f15 [(.tv (.sl .bool) x0)] [] [] (finC (.one .bool) κ)
    = f15.b' L N (fun a0 => κ (.tv .bool a0)) x0 := by kernel_rfl
theorem f15.b_eq {R : Type} (L N : Nat) (κ : AV → Option R) (x0 : (List Bool)) :
    evBody (E15 L N) (evCallI (E15 L N) 0 1000) 1000 15 Try.f15 [(.tv (.sl .bool) x0)] [] [] (finC (.one .bool) κ)
    = f15.b L N (fun a0 => κ (.tv .bool a0)) x0 := by
  rw [f15.b_pre]
  unfold f15.b
  rfl
theorem f15.b'_nat {R R' : Type} (j : R → Option R') (L N : Nat) (k : Bool → Option R) (x0 : (List Bool)) :
    f15.b' L N (fun a0 => (k a0).bind j) x0 = (f15.b' L N k x0).bind j := by
  unfold f15.b'
  repeat' (first | (with_reducible refine cond_nat ?_ ?_) | (with_reducible refine bind_nat fun _ => ?_) | rfl)
theorem f15.b_nat {R R' : Type} (j : R → Option R') (L N : Nat) (k : Bool → Option R) (x0 : (List Bool)) :
    f15.b L N (fun a0 => (k a0).bind j) x0 = (f15.b L N k x0).bind j := by
  unfold f15.b
  exact f15.b'_nat ..
theorem f15.ok (L N : Nat) (hΦ : TellsOk Try.prog ((Φ36 L N))) : EntOk Try.prog 15 (f15.ent L N) := by
  intro args vw site h
  unfold f15.ent
  split
  · rename_i d ha
    intro y hy hs
    refine call_ro (dep := 1000) (E := (E15 L N)) (rs := (.one .bool)) (v := (.tv .bool y)) (sound_of hΦ) okP (callI_sound (sound_of hΦ) okP 0 1000) (f := Try.f15) rfl hs ha ?_ rfl site
    refine (f15.b_eq L N some d.1).trans ?_
    refine ((f15.b_nat (fun y => (some (.tv .bool y) : Option AV)) L N some d.1)).trans ?_
    rw [show f15.b L N some d.1 = some y from hy]
    rfl
  · intro y hy
    cases hy
def Φ15 (L N : Nat) : Tells := (addT (Φ36 L N) 15 (f15.ent L N))
theorem Φ15_ok (L N : Nat) : TellsOk Try.prog (Φ15 L N) := addT_ok (Φ36_ok L N) (f15.ok L N (Φ36_ok L N))
def f79.b' {R : Type} (L N : Nat) (k : Bool → Option R) (x0 : Move) (x1 : Move) : Option R :=
  bif (decide (x0.act < x1.act)) then
    k true
  else bif (x0.act == x1.act) then
    k (decide (x0.to < x1.to))
  else k false
def f79.b {R : Type} (L N : Nat) (k : Bool → Option R) (x0 : Move) (x1 : Move) : Option R :=
  f79.b' L N k x0 x1
def f79 (L N : Nat) (x0 : Move) (x1 : Move) : Option (Bool) := f79.b L N some x0 x1
def f79.ent (L N : Nat) (args : List AV) (vw : View) (site : Nat) : Ans := match roD [(.st 0), (.st 0)] vw args with
  | some d => ⟨Bool, f79 L N d.1 d.2.1, fun y => ((.tv .bool y), [], [])⟩
  | none => Ans.no
noncomputable def E79 (L N : Nat) : Env := { P := Try.prog, ty := tyOf, Φ := (Φ15 L N), inl := fun _ => false, live := lives, liveX := livesX, L := L }
theorem f79.b_pre {R : Type} (L N : Nat) (κ : AV → Option R) (x0 : Move) (x1 : Move) :
    evBody (E79 L N) (evCallI (E79 L N) 0 1000) 1000 79 Try.f79 [(.tv (.st 0) x0), (.tv (.st 0) x1)] [] [] (finC (.one .bool) κ)
    = f79.b' L N (fun a0 => κ (.tv .bool a0)) x0 x1 := by kernel_rfl
theorem f79.b_eq {R : Type} (L N : Nat) (κ : AV → Option R) (x0 : Move) (x1 : Move) :
    evBody (E79 L N) (evCallI (E79 L N) 0 1000) 1000 79 Try.f79 [(.tv (.st 0) x0), (.tv (.st 0) x1)] [] [] (finC (.one .bool) κ)
    = f79.b L N (fun a0 => κ (.tv .bool a0)) x0 x1 := by
  rw [f79.b_pre]
  unfold f79.b
  rfl
theorem f79.b'_nat {R R' : Type} (j : R → Option R') (L N : Nat) (k : Bool → Option R) (x0 : Move) (x1 : Move) :
    f79.b' L N (fun a0 => (k a0).bind j) x0 x1 = (f79.b' L N k x0 x1).bind j := by
  unfold f79.b'
  repeat' (first | (with_reducible refine cond_nat ?_ ?_) | (with_reducible refine bind_nat fun _ => ?_) | rfl)
theorem f79.b_nat {R R' : Type} (j : R → Option R') (L N : Nat) (k : Bool → Option R) (x0 : Move) (x1 : Move) :
    f79.b L N (fun a0 => (k a0).bind j) x0 x1 = (f79.b L N k x0 x1).bind j := by
  unfold f79.b
  exact f79.b'_nat ..
theorem f79.ok (L N : Nat) (hΦ : TellsOk Try.prog ((Φ15 L N))) : EntOk Try.prog 79 (f79.ent L N) := by
  intro args vw site h
  unfold f79.ent
  split
  · rename_i d ha
    intro y hy hs
    refine call_ro (dep := 1000) (E := (E79 L N)) (rs := (.one .bool)) (v := (.tv .bool y)) (sound_of hΦ) okP (callI_sound (sound_of hΦ) okP 0 1000) (f := Try.f79) rfl hs ha ?_ rfl site
    refine (f79.b_eq L N some d.1 d.2.1).trans ?_
    refine ((f79.b_nat (fun y => (some (.tv .bool y) : Option AV)) L N some d.1 d.2.1)).trans ?_
    rw [show f79.b L N some d.1 d.2.1 = some y from hy]
    rfl
  · intro y hy
    cases hy
def Φ79 (L N : Nat) : Tells := (addT (Φ15 L N) 79 (f79.ent L N))
theorem Φ79_ok (L N : Nat) : TellsOk Try.prog (Φ79 L N) := addT_ok (Φ15_ok L N) (f79.ok L N (Φ15_ok L N))
def f62.s1' {R : Type} (L N : Nat) (k1_e2 : Int → (List (List Move)) → Option R) (k1_r : Bool → Int → (List (List Move)) → Option R) (rec1 : Int → Int → (List (List Move)) → Option R) (s3 : Int) (s4 : Int) (s5 : (List (List Move))) : Option R :=
  bif (decide (0 ≤ s3) && decide (s3 < (s5.length : Int))) then
    bif (decide (s4 < ((listAt s5 [] s3.toNat).length : Int))) then
      bif (decide (0 ≤ s3) && decide (s3 < (s5.length : Int))) then
        bif (decide (0 ≤ s4) && decide (s4 < ((listAt s5 [] s3.toNat).length : Int))) then
          (f46 L N ((listAt (listAt s5 [] s3.toNat) (Ty.dflt (.st 0)) s4.toNat).act)).bind fun y8 =>
          bif (!y8) then
            k1_r false s3 s5
          else (f49 L N ((listAt (listAt s5 [] s3.toNat) (Ty.dflt (.st 0)) s4.toNat).to) (0 : Int) (wi ((s5.length : Int) - (1 : Int)))).bind fun y9 =>
          bif (!y9) then
            k1_r false s3 s5
          else bif (decide (s4 > (0 : Int))) then
            bif (decide (0 ≤ s3) && decide (s3 < (s5.length : Int))) then
              bif (decide (0 ≤ (wi (s4 - (1 : Int)))) && decide ((wi (s4 - (1 : Int))) < ((listAt s5 [] s3.toNat).length : Int))) then
                (f79 L N (listAt (listAt s5 [] s3.toNat) (Ty.dflt (.st 0)) (wi (s4 - (1 : Int))).toNat) (Move.mk ((listAt (listAt s5 [] s3.toNat) (Ty.dflt (.st 0)) s4.toNat).act) ((listAt (listAt s5 [] s3.toNat) (Ty.dflt (.st 0)) s4.toNat).to))).bind fun y10 =>
                bif (!y10) then
                  k1_r false s3 s5
                else rec1 s3 (wi (s4 + (1 : Int))) s5
              else none
            else none
          else rec1 s3 (wi (s4 + (1 : Int))) s5
        else none
      else none
    else k1_e2 s3 s5
  else none
def f62.s1 {R : Type} (L N : Nat) (k1_e2 : Int → (List (List Move)) → Option R) (k1_r : Bool → Int → (List (List Move)) → Option R) (rec1 : Int → Int → (List (List Move)) → Option R) (s3 : Int) (s4 : Int) (s5 : (List (List Move))) : Option R :=
  f62.s1' L N k1_e2 k1_r rec1 s3 s4 s5
def f62.l1 {R : Type} (L N : Nat) (k1_e2 : Int → (List (List Move)) → Option R) (k1_r : Bool → Int → (List (List Move)) → Option R) : Nat → Int → Int → (List (List Move)) → Option R
  | 0, _, _, _ => none
  | n + 1, s3, s4, s5 => f62.s1 L N k1_e2 k1_r (f62.l1 L N k1_e2 k1_r n) s3 s4 s5
def f62.T1 (s3 : Int) (s4 : Int) (s5 : (List (List Move))) : T := mkT 68 [(1, (.ptr 1001 0)), (3, (.tv i64 s3)), (4, (.tv i64 s4))]
def f62.H1 (s3 : Int) (s4 : Int) (s5 : (List (List Move))) : H := [(1001, (.box [(.tv (.sl (.sl (.st 0))) s5)]))]
def f62.T1_e2 (z6 : Int) (z7 : (List (List Move))) : T := mkT 68 [(1, (.ptr 1001 0)), (3, (.tv i64 z6))]
def f62.H1_e2 (z6 : Int) (z7 : (List (List Move))) : H := [(1001, (.box [(.tv (.sl (.sl (.st 0))) z7)]))]
def f62.T1_r (z15 : Bool) (z16 : Int) (z17 : (List (List Move))) : T := mkT 68 [(1, (.ptr 1001 0)), (2, (.tv .bool z15)), (3, (.tv i64 z16))]
def f62.H1_r (z15 : Bool) (z16 : Int) (z17 : (List (List Move))) : H := [(1001, (.box [(.tv (.sl (.sl (.st 0))) z17)]))]
def f62.p1_e2' {R : Type} (L N : Nat) (k0_e0 : Option R) (k0_r : Bool → Option R) (rec0 : Int → (List (List Move)) → Option R) (z6 : Int) (z7 : (List (List Move))) : Option R :=
  rec0 (wi (z6 + (1 : Int))) z7
def f62.p1_e2 {R : Type} (L N : Nat) (k0_e0 : Option R) (k0_r : Bool → Option R) (rec0 : Int → (List (List Move)) → Option R) (z6 : Int) (z7 : (List (List Move))) : Option R :=
  f62.p1_e2' L N k0_e0 k0_r rec0 z6 z7
def f62.p1_r' {R : Type} (L N : Nat) (k0_e0 : Option R) (k0_r : Bool → Option R) (rec0 : Int → (List (List Move)) → Option R) (z15 : Bool) (z16 : Int) (z17 : (List (List Move))) : Option R :=
  k0_r z15
def f62.p1_r {R : Type} (L N : Nat) (k0_e0 : Option R) (k0_r : Bool → Option R) (rec0 : Int → (List (List Move)) → Option R) (z15 : Bool) (z16 : Int) (z17 : (List (List Move))) : Option R :=
  f62.p1_r' L N k0_e0 k0_r rec0 z15 z16 z17
def f62.s0' {R : Type} (L N : Nat) (k0_e0 : Option R) (k0_r : Bool → Option R) (rec0 : Int → (List (List Move)) → Option R) (w1 : Int → Int → (List (List Move)) → Option R) (s1 : Int) (s2 : (List (List Move))) : Option R :=
  bif (decide (s1 < (s2.length : Int))) then
    w1 s1 (0 : Int) s2
  else k0_e0
def f62.s0 {R : Type} (L N : Nat) (k0_e0 : Option R) (k0_r : Bool → Option R) (rec0 : Int → (List (List Move)) → Option R) (s1 : Int) (s2 : (List (List Move))) : Option R :=
  f62.s0' L N k0_e0 k0_r rec0 (fun s3 s4 s5 => f62.l1 L N (fun z6 z7 => f62.p1_e2 L N k0_e0 k0_r rec0 z6 z7) (fun z15 z16 z17 => f62.p1_r L N k0_e0 k0_r rec0 z15 z16 z17) L s3 s4 s5) s1 s2
def f62.l0 {R : Type} (L N : Nat) (k0_e0 : Option R) (k0_r : Bool → Option R) : Nat → Int → (List (List Move)) → Option R
  | 0, _, _ => none
  | n + 1, s1, s2 => f62.s0 L N k0_e0 k0_r (f62.l0 L N k0_e0 k0_r n) s1 s2
def f62.T0 (s1 : Int) (s2 : (List (List Move))) : T := mkT 68 [(1, (.ptr 1001 0)), (3, (.tv i64 s1))]
def f62.H0 (s1 : Int) (s2 : (List (List Move))) : H := [(1001, (.box [(.tv (.sl (.sl (.st 0))) s2)]))]
def f62.T0_e0 : T := mkT 68 []
def f62.H0_e0 : H := []
def f62.T0_r (z21 : Bool) : T := mkT 68 [(2, (.tv .bool z21))]
def f62.H0_r (z21 : Bool) : H := []
def f62.p0_e0' {R : Type} (L N : Nat) (k : Bool → Option R) : Option R :=
  k true
def f62.p0_e0 {R : Type} (L N : Nat) (k : Bool → Option R) : Option R :=
  f62.p0_e0' L N k
def f62.p0_r' {R : Type} (L N : Nat) (k : Bool → Option R) (z21 : Bool) : Option R :=
  k z21
def f62.p0_r {R : Type} (L N : Nat) (k : Bool → Option R) (z21 : Bool) : Option R :=
  f62.p0_r' L N k z21
def f62.b' {R : Type} (L N : Nat) (k : Bool → Option R) (w0 : Int → (List (List Move)) → Option R) (x0 : Graph) : Option R :=
  (f49 L N (x0.moves.length : Int) (1 : Int) (60 : Int)).bind fun y0 =>
  bif (!y0) then
    k false
  else w0 (0 : Int) x0.moves
def f62.b {R : Type} (L N : Nat) (k : Bool → Option R) (x0 : Graph) : Option R :=
  f62.b' L N k (fun s1 s2 => f62.l0 L N (f62.p0_e0 L N k) (fun z21 => f62.p0_r L N k z21) L s1 s2) x0
def f62 (L N : Nat) (x0 : Graph) : Option (Bool) := f62.b L N some x0
def f62.ent (L N : Nat) (args : List AV) (vw : View) (site : Nat) : Ans := match roD [(.st 2)] vw args with
  | some d => ⟨Bool, f62 L N d.1, fun y => ((.tv .bool y), [], [])⟩
  | none => Ans.no
noncomputable def E62 (L N : Nat) : Env := { P := Try.prog, ty := tyOf, Φ := (Φ79 L N), inl := fun _ => false, live := lives, liveX := livesX, L := L }
noncomputable def f62.c0 : Code := loopAt 0 (codeOf Try.f62)
noncomputable def f62.c1 : Code := loopAt 2 f62.c0
theorem f62.s1_pre {R : Type} (L N : Nat) (κ : Ex → T → H → Option R) (rec : T → H → Option R) (s3 : Int) (s4 : Int) (s5 : (List (List Move))) :
    evRd (E62 L N) (evCallI (E62 L N) 0 1000) 1000 62 68 2 f62.c1 κ rec (f62.T1 s3 s4 s5) (f62.H1 s3 s4 s5)
    = f62.s1' L N (fun z6 z7 => κ (.exit 2) (f62.T1_e2 z6 z7) (f62.H1_e2 z6 z7)) (fun z15 z16 z17 => κ .ret (f62.T1_r z15 z16 z17) (f62.H1_r z15 z16 z17)) (fun s3 s4 s5 => rec (f62.T1 s3 s4 s5) (f62.H1 s3 s4 s5)) s3 s4 s5 := by kernel_rfl
theorem f62.s1_eq {R : Type} (L N : Nat) (κ : Ex → T → H → Option R) (rec : T → H → Option R) (s3 : Int) (s4 : Int) (s5 : (List (List Move))) :
    evRd (E62 L N) (evCallI (E62 L N) 0 1000) 1000 62 68 2 f62.c1 κ rec (f62.T1 s3 s4 s5) (f62.H1 s3 s4 s5)
    = f62.s1 L N (fun z6 z7 => κ (.exit 2) (f62.T1_e2 z6 z7) (f62.H1_e2 z6 z7)) (fun z15 z16 z17 => κ .ret (f62.T1_r z15 z16 z17) (f62.H1_r z15 z16 z17)) (fun s3 s4 s5 => rec (f62.T1 s3 s4 s5) (f62.H1 s3 s4 s5)) s3 s4 s5 := by
  rw [f62.s1_pre]
  unfold f62.s1
  rfl
theorem f62.l1_eq {R : Type} (L N : Nat) (κ : Ex → T → H → Option R) : ∀ (n : Nat) (s3 : Int) (s4 : Int) (s5 : (List (List Move))),
    evLp (E62 L N) (evCallI (E62 L N) 0 1000) 1000 62 68 2 f62.c1 κ n (f62.T1 s3 s4 s5) (f62.H1 s3 s4 s5)
    = f62.l1 L N (fun z6 z7 => κ (.exit 2) (f62.T1_e2 z6 z7) (f62.H1_e2 z6 z7)) (fun z15 z16 z17 => κ .ret (f62.T1_r z15 z16 z17) (f62.H1_r z15 z16 z17)) n s3 s4 s5 := by
  intro n
  induction n with
  | zero => intros; rfl
  | succ n ih =>
    intro s3 s4 s5
    rw [evLp_succ, f62.s1_eq]
    simp only [ih]
    rfl
theorem f62.p1_e2_pre {R : Type} (L N : Nat) (κ : Ex → T → H → Option R) (rec : T → H → Option R) (z6 : Int) (z7 : (List (List Move))) :
    (contAt (E62 L N) (evCallI (E62 L N) 0 1000) 1000 62 68 2 f62.c0 (stepK (outK (keepT 68 ((E62 L N).liveX 62 0).1) (keepH 1000 ((E62 L N).liveX 62 0).2) κ) fun t h => rec (keepT 68 ((E62 L N).live 62 0).1 t) (keepH 1000 ((E62 L N).live 62 0).2 h))) (.exit 2) (f62.T1_e2 z6 z7) (f62.H1_e2 z6 z7)
    = f62.p1_e2' L N (κ (.exit 0) f62.T0_e0 f62.H0_e0) (fun z21 => κ .ret (f62.T0_r z21) (f62.H0_r z21)) (fun s1 s2 => rec (f62.T0 s1 s2) (f62.H0 s1 s2)) z6 z7 := by kernel_rfl
theorem f62.p1_e2_eq {R : Type} (L N : Nat) (κ : Ex → T → H → Option R) (rec : T → H → Option R) (z6 : Int) (z7 : (List (List Move))) :
    (contAt (E62 L N) (evCallI (E62 L N) 0 1000) 1000 62 68 2 f62.c0 (stepK (outK (keepT 68 ((E62 L N).liveX 62 0).1) (keepH 1000 ((E62 L N).liveX 62 0).2) κ) fun t h => rec (keepT 68 ((E62 L N).live 62 0).1 t) (keepH 1000 ((E62 L N).live 62 0).2 h))) (.exit 2) (f62.T1_e2 z6 z7) (f62.H1_e2 z6 z7)
    = f62.p1_e2 L N (κ (.exit 0) f62.T0_e0 f62.H0_e0) (fun z21 => κ .ret (f62.T0_r z21) (f62.H0_r z21)) (fun s1 s2 => rec (f62.T0 s1 s2) (f62.H0 s1 s2)) z6 z7 := by
  rw [f62.p1_e2_pre]
  unfold f62.p1_e2
  rfl
theorem f62.p1_r_pre {R : Type} (L N : Nat) (κ : Ex → T → H → Option R) (rec : T → H → Option R) (z15 : Bool) (z16 : Int) (z17 : (List (List Move))) :
    (contAt (E62 L N) (evCallI (E62 L N) 0 1000) 1000 62 68 2 f62.c0 (stepK (outK (keepT 68 ((E62 L N).liveX 62 0).1) (keepH 1000 ((E62 L N).liveX 62 0).2) κ) fun t h => rec (keepT 68 ((E62 L N).live 62 0).1 t) (keepH 1000 ((E62 L N).live 62 0).2 h))) .ret (f62.T1_r z15 z16 z17) (f62.H1_r z15 z16 z17)
    = f62.p1_r' L N (κ (.exit 0) f62.T0_e0 f62.H0_e0) (fun z21 => κ .ret (f62.T0_r z21) (f62.H0_r z21)) (fun s1 s2 => rec (f62.T0 s1 s2) (f62.H0 s1 s2)) z15 z16 z17 := by kernel_rfl
theorem f62.p1_r_eq {R : Type} (L N : Nat) (κ : Ex → T → H → Option R) (rec : T → H → Option R) (z15 : Bool) (z16 : Int) (z17 : (List (List Move))) :
    (contAt (E62 L N) (evCallI (E62 L N) 0 1000) 1000 62 68 2 f62.c0 (stepK (outK (keepT 68 ((E62 L N).liveX 62 0).1) (keepH 1000 ((E62 L N).liveX 62 0).2) κ) fun t h => rec (keepT 68 ((E62 L N).live 62 0).1 t) (keepH 1000 ((E62 L N).live 62 0).2 h))) .ret (f62.T1_r z15 z16 z17) (f62.H1_r z15 z16 z17)
    = f62.p1_r L N (κ (.exit 0) f62.T0_e0 f62.H0_e0) (fun z21 => κ .ret (f62.T0_r z21) (f62.H0_r z21)) (fun s1 s2 => rec (f62.T0 s1 s2) (f62.H0 s1 s2)) z15 z16 z17 := by
  rw [f62.p1_r_pre]
  unfold f62.p1_r
  rfl
theorem f62.s0_pre {R : Type} (L N : Nat) (κ : Ex → T → H → Option R) (rec : T → H → Option R) (s1 : Int) (s2 : (List (List Move))) :
    evRd (E62 L N) (evCallI (E62 L N) 0 1000) 1000 62 68 0 f62.c0 κ rec (f62.T0 s1 s2) (f62.H0 s1 s2)
    = f62.s0' L N (κ (.exit 0) f62.T0_e0 f62.H0_e0) (fun z21 => κ .ret (f62.T0_r z21) (f62.H0_r z21)) (fun s1 s2 => rec (f62.T0 s1 s2) (f62.H0 s1 s2)) (fun s3 s4 s5 => evLp (E62 L N) (evCallI (E62 L N) 0 1000) 1000 62 68 2 f62.c1 (contAt (E62 L N) (evCallI (E62 L N) 0 1000) 1000 62 68 2 f62.c0 (stepK (outK (keepT 68 ((E62 L N).liveX 62 0).1) (keepH 1000 ((E62 L N).liveX 62 0).2) κ) fun t h => rec (keepT 68 ((E62 L N).live 62 0).1 t) (keepH 1000 ((E62 L N).live 62 0).2 h))) L (f62.T1 s3 s4 s5) (f62.H1 s3 s4 s5)) s1 s2 := by kernel_rfl
theorem f62.s0_eq {R : Type} (L N : Nat) (κ : Ex → T → H → Option R) (rec : T → H → Option R) (s1 : Int) (s2 : (List (List Move))) :
    evRd (E62 L N) (evCallI (E62 L N) 0 1000) 1000 62 68 0 f62.c0 κ rec (f62.T0 s1 s2) (f62.H0 s1 s2)
    = f62.s0 L N (κ (.exit 0) f62.T0_e0 f62.H0_e0) (fun z21 => κ .ret (f62.T0_r z21) (f62.H0_r z21)) (fun s1 s2 => rec (f62.T0 s1 s2) (f62.H0 s1 s2)) s1 s2 := by
  rw [f62.s0_pre]
  unfold f62.s0
  simp only [f62.l1_eq, f62.p1_e2_eq, f62.p1_r_eq]
theorem f62.l0_eq {R : Type} (L N : Nat) (κ : Ex → T → H → Option R) : ∀ (n : Nat) (s1 : Int) (s2 : (List (List Move))),
    evLp (E62 L N) (evCallI (E62 L N) 0 1000) 1000 62 68 0 f62.c0 κ n (f62.T0 s1 s2) (f62.H0 s1 s2)
    = f62.l0 L N (κ (.exit 0) f62.T0_e0 f62.H0_e0) (fun z21 => κ .ret (f62.T0_r z21) (f62.H0_r z21)) n s1 s2 := by
  intro n
  induction n with
  | zero => intros; rfl
  | succ n ih =>
    intro s1 s2
    rw [evLp_succ, f62.s0_eq]
    simp only [ih]
    rfl
theorem f62.p0_e0_pre {R : Type} (L N : Nat) (κ : AV → Option R) :
    (contAt (E62 L N) (evCallI (E62 L N) 0 1000) 1000 62 68 0 (codeOf Try.f62) (finK (E62 L N) 1000 Try.f62 (finC (.one .bool) κ))) (.exit 0) f62.T0_e0 f62.H0_e0
    = f62.p0_e0' L N (fun a0 => κ (.tv .bool a0)) := by kernel_rfl
theorem f62.p0_e0_eq {R : Type} (L N : Nat) (κ : AV → Option R) :
    (contAt (E62 L N) (evCallI (E62 L N) 0 1000) 1000 62 68 0 (codeOf Try.f62) (finK (E62 L N) 1000 Try.f62 (finC (.one .bool) κ))) (.exit 0) f62.T0_e0 f62.H0_e0
    = f62.p0_e0 L N (fun a0 => κ (.tv .bool a0)) := by
  rw [f62.p0_e0_pre]
  unfold f62.p0_e0
  rfl
theorem f62.p0_r_pre {R : Type} (L N : Nat) (κ : AV → Option R) (z21 : Bool) :
    (contAt (E62 L N) (evCallI (E62 L N) 0 1000) 1000 62 68 0 (codeOf Try.f62) (finK (E62 L N) 1000 Try.f62 (finC (.one .bool) κ))) .ret (f62.T0_r z21) (f62.H0_r z21)
    = f62.p0_r' L N (fun a0 => κ (.tv .bool a0)) z21 := by kernel_rfl
theorem f62.p0_r_eq {R : Type} (L N : Nat) (κ : AV → Option R) (z21 : Bool) :
    (contAt (E62 L N) (evCallI (E62 L N) 0 1000) 1000 62 68 0 (codeOf Try.f62) (finK (E62 L N) 1000 Try.f62 (finC (.one .bool) κ))) .ret (f62.T0_r z21) (f62.H0_r z21)
    = f62.p0_r L N (fun a0 => κ (.tv .bool a0)) z21 := by
  rw [f62.p0_r_pre]
  unfold f62.p0_r
  rfl
theorem f62.b_pre {R : Type} (L N : Nat) (κ : AV → Option R) (x0 : Graph) :
    evBody (E62 L N) (evCallI (E62 L N) 0 1000) 1000 62 Try.f62 [(.tv (.st 2) x0)] [] [] (finC (.one .bool) κ)
    = f62.b' L N (fun a0 => κ (.tv .bool a0)) (fun s1 s2 => evLp (E62 L N) (evCallI (E62 L N) 0 1000) 1000 62 68 0 f62.c0 (contAt (E62 L N) (evCallI (E62 L N) 0 1000) 1000 62 68 0 (codeOf Try.f62) (finK (E62 L N) 1000 Try.f62 (finC (.one .bool) κ))) L (f62.T0 s1 s2) (f62.H0 s1 s2)) x0 := by kernel_rfl
theorem f62.b_eq {R : Type} (L N : Nat) (κ : AV → Option R) (x0 : Graph) :
    evBody (E62 L N) (evCallI (E62 L N) 0 1000) 1000 62 Try.f62 [(.tv (.st 2) x0)] [] [] (finC (.one .bool) κ)
    = f62.b L N (fun a0 => κ (.tv .bool a0)) x0 := by
  rw [f62.b_pre]
  unfold f62.b
  simp only [f62.l0_eq, f62.p0_e0_eq, f62.p0_r_eq]
theorem f62.s1'_nat {R R' : Type} (j : R → Option R') (L N : Nat) (k1_e2 : Int → (List (List Move)) → Option R) (k1_r : Bool → Int → (List (List Move)) → Option R) (rec1 : Int → Int → (List (List Move)) → Option R) (s3 : Int) (s4 : Int) (s5 : (List (List Move))) :
    f62.s1' L N (fun a0 a1 => (k1_e2 a0 a1).bind j) (fun a0 a1 a2 => (k1_r a0 a1 a2).bind j) (fun a0 a1 a2 => (rec1 a0 a1 a2).bind j) s3 s4 s5 = (f62.s1' L N k1_e2 k1_r rec1 s3 s4 s5).bind j := by
  unfold f62.s1'
  repeat' (first | (with_reducible refine cond_nat ?_ ?_) | (with_reducible refine bind_nat fun _ => ?_) | rfl)
theorem f62.s1_nat {R R' : Type} (j : R → Option R') (L N : Nat) (k1_e2 : Int → (List (List Move)) → Option R) (k1_r : Bool → Int → (List (List Move)) → Option R) (rec1 : Int → Int → (List (List Move)) → Option R) (s3 : Int) (s4 : Int) (s5 : (List (List Move))) :
    f62.s1 L N (fun a0 a1 => (k1_e2 a0 a1).bind j) (fun a0 a1 a2 => (k1_r a0 a1 a2).bind j) (fun a0 a1 a2 => (rec1 a0 a1 a2).bind j) s3 s4 s5 = (f62.s1 L N k1_e2 k1_r rec1 s3 s4 s5).bind j := by
  unfold f62.s1
  exact f62.s1'_nat ..
theorem f62.l1_nat {R R' : Type} (j : R → Option R') (L N : Nat) (k1_e2 : Int → (List (List Move)) → Option R) (k1_r : Bool → Int → (List (List Move)) → Option R) : ∀ (n : Nat) (s3 : Int) (s4 : Int) (s5 : (List (List Move))),
    f62.l1 L N (fun a0 a1 => (k1_e2 a0 a1).bind j) (fun a0 a1 a2 => (k1_r a0 a1 a2).bind j) n s3 s4 s5 = (f62.l1 L N k1_e2 k1_r n s3 s4 s5).bind j := by
  intro n
  induction n with
  | zero => intros; rfl
  | succ n ih =>
    intro s3 s4 s5
    show f62.s1 L N (fun a0 a1 => (k1_e2 a0 a1).bind j) (fun a0 a1 a2 => (k1_r a0 a1 a2).bind j) (f62.l1 L N (fun a0 a1 => (k1_e2 a0 a1).bind j) (fun a0 a1 a2 => (k1_r a0 a1 a2).bind j) n) s3 s4 s5 = _
    rw [show f62.l1 L N (fun a0 a1 => (k1_e2 a0 a1).bind j) (fun a0 a1 a2 => (k1_r a0 a1 a2).bind j) n = (fun s3 s4 s5 => (f62.l1 L N k1_e2 k1_r n s3 s4 s5).bind j) from funext fun s3 => funext fun s4 => funext fun s5 => ih s3 s4 s5]
    exact f62.s1_nat ..
theorem f62.p1_e2'_nat {R R' : Type} (j : R → Option R') (L N : Nat) (k0_e0 : Option R) (k0_r : Bool → Option R) (rec0 : Int → (List (List Move)) → Option R) (z6 : Int) (z7 : (List (List Move))) :
    f62.p1_e2' L N (k0_e0.bind j) (fun a0 => (k0_r a0).bind j) (fun a0 a1 => (rec0 a0 a1).bind j) z6 z7 = (f62.p1_e2' L N k0_e0 k0_r rec0 z6 z7).bind j := by
  unfold f62.p1_e2'
  repeat' (first | (with_reducible refine cond_nat ?_ ?_) | (with_reducible refine bind_nat fun _ => ?_) | rfl)
theorem f62.p1_e2_nat {R R' : Type} (j : R → Option R') (L N : Nat) (k0_e0 : Option R) (k0_r : Bool → Option R) (rec0 : Int → (List (List Move)) → Option R) (z6 : Int) (z7 : (List (List Move))) :
    f62.p1_e2 L N (k0_e0.bind j) (fun a0 => (k0_r a0).bind j) (fun a0 a1 => (rec0 a0 a1).bind j) z6 z7 = (f62.p1_e2 L N k0_e0 k0_r rec0 z6 z7).bind j := by
  unfold f62.p1_e2
  exact f62.p1_e2'_nat ..
theorem f62.p1_r'_nat {R R' : Type} (j : R → Option R') (L N : Nat) (k0_e0 : Option R) (k0_r : Bool → Option R) (rec0 : Int → (List (List Move)) → Option R) (z15 : Bool) (z16 : Int) (z17 : (List (List Move))) :
    f62.p1_r' L N (k0_e0.bind j) (fun a0 => (k0_r a0).bind j) (fun a0 a1 => (rec0 a0 a1).bind j) z15 z16 z17 = (f62.p1_r' L N k0_e0 k0_r rec0 z15 z16 z17).bind j := by
  unfold f62.p1_r'
  repeat' (first | (with_reducible refine cond_nat ?_ ?_) | (with_reducible refine bind_nat fun _ => ?_) | rfl)
theorem f62.p1_r_nat {R R' : Type} (j : R → Option R') (L N : Nat) (k0_e0 : Option R) (k0_r : Bool → Option R) (rec0 : Int → (List (List Move)) → Option R) (z15 : Bool) (z16 : Int) (z17 : (List (List Move))) :
    f62.p1_r L N (k0_e0.bind j) (fun a0 => (k0_r a0).bind j) (fun a0 a1 => (rec0 a0 a1).bind j) z15 z16 z17 = (f62.p1_r L N k0_e0 k0_r rec0 z15 z16 z17).bind j := by
  unfold f62.p1_r
  exact f62.p1_r'_nat ..
theorem f62.s0'_nat {R R' : Type} (j : R → Option R') (L N : Nat) (k0_e0 : Option R) (k0_r : Bool → Option R) (rec0 : Int → (List (List Move)) → Option R) (w1 : Int → Int → (List (List Move)) → Option R) (s1 : Int) (s2 : (List (List Move))) :
    f62.s0' L N (k0_e0.bind j) (fun a0 => (k0_r a0).bind j) (fun a0 a1 => (rec0 a0 a1).bind j) (fun a0 a1 a2 => (w1 a0 a1 a2).bind j) s1 s2 = (f62.s0' L N k0_e0 k0_r rec0 w1 s1 s2).bind j := by
  unfold f62.s0'
  repeat' (first | (with_reducible refine cond_nat ?_ ?_) | (with_reducible refine bind_nat fun _ => ?_) | rfl)
theorem f62.s0_nat {R R' : Type} (j : R → Option R') (L N : Nat) (k0_e0 : Option R) (k0_r : Bool → Option R) (rec0 : Int → (List (List Move)) → Option R) (s1 : Int) (s2 : (List (List Move))) :
    f62.s0 L N (k0_e0.bind j) (fun a0 => (k0_r a0).bind j) (fun a0 a1 => (rec0 a0 a1).bind j) s1 s2 = (f62.s0 L N k0_e0 k0_r rec0 s1 s2).bind j := by
  unfold f62.s0
  simp only [f62.l1_nat, f62.p1_e2_nat, f62.p1_r_nat]
  exact f62.s0'_nat ..
theorem f62.l0_nat {R R' : Type} (j : R → Option R') (L N : Nat) (k0_e0 : Option R) (k0_r : Bool → Option R) : ∀ (n : Nat) (s1 : Int) (s2 : (List (List Move))),
    f62.l0 L N (k0_e0.bind j) (fun a0 => (k0_r a0).bind j) n s1 s2 = (f62.l0 L N k0_e0 k0_r n s1 s2).bind j := by
  intro n
  induction n with
  | zero => intros; rfl
  | succ n ih =>
    intro s1 s2
    show f62.s0 L N (k0_e0.bind j) (fun a0 => (k0_r a0).bind j) (f62.l0 L N (k0_e0.bind j) (fun a0 => (k0_r a0).bind j) n) s1 s2 = _
    rw [show f62.l0 L N (k0_e0.bind j) (fun a0 => (k0_r a0).bind j) n = (fun s1 s2 => (f62.l0 L N k0_e0 k0_r n s1 s2).bind j) from funext fun s1 => funext fun s2 => ih s1 s2]
    exact f62.s0_nat ..
theorem f62.p0_e0'_nat {R R' : Type} (j : R → Option R') (L N : Nat) (k : Bool → Option R) :
    f62.p0_e0' L N (fun a0 => (k a0).bind j) = (f62.p0_e0' L N k).bind j := by
  unfold f62.p0_e0'
  repeat' (first | (with_reducible refine cond_nat ?_ ?_) | (with_reducible refine bind_nat fun _ => ?_) | rfl)
theorem f62.p0_e0_nat {R R' : Type} (j : R → Option R') (L N : Nat) (k : Bool → Option R) :
    f62.p0_e0 L N (fun a0 => (k a0).bind j) = (f62.p0_e0 L N k).bind j := by
  unfold f62.p0_e0
  exact f62.p0_e0'_nat ..
theorem f62.p0_r'_nat {R R' : Type} (j : R → Option R') (L N : Nat) (k : Bool → Option R) (z21 : Bool) :
    f62.p0_r' L N (fun a0 => (k a0).bind j) z21 = (f62.p0_r' L N k z21).bind j := by
  unfold f62.p0_r'
  repeat' (first | (with_reducible refine cond_nat ?_ ?_) | (with_reducible refine bind_nat fun _ => ?_) | rfl)
theorem f62.p0_r_nat {R R' : Type} (j : R → Option R') (L N : Nat) (k : Bool → Option R) (z21 : Bool) :
    f62.p0_r L N (fun a0 => (k a0).bind j) z21 = (f62.p0_r L N k z21).bind j := by
  unfold f62.p0_r
  exact f62.p0_r'_nat ..
theorem f62.b'_nat {R R' : Type} (j : R → Option R') (L N : Nat) (k : Bool → Option R) (w0 : Int → (List (List Move)) → Option R) (x0 : Graph) :
    f62.b' L N (fun a0 => (k a0).bind j) (fun a0 a1 => (w0 a0 a1).bind j) x0 = (f62.b' L N k w0 x0).bind j := by
  unfold f62.b'
  repeat' (first | (with_reducible refine cond_nat ?_ ?_) | (with_reducible refine bind_nat fun _ => ?_) | rfl)
theorem f62.b_nat {R R' : Type} (j : R → Option R') (L N : Nat) (k : Bool → Option R) (x0 : Graph) :
    f62.b L N (fun a0 => (k a0).bind j) x0 = (f62.b L N k x0).bind j := by
  unfold f62.b
  simp only [f62.l0_nat, f62.p0_e0_nat, f62.p0_r_nat]
  exact f62.b'_nat ..
theorem f62.ok (L N : Nat) (hΦ : TellsOk Try.prog ((Φ79 L N))) : EntOk Try.prog 62 (f62.ent L N) := by
  intro args vw site h
  unfold f62.ent
  split
  · rename_i d ha
    intro y hy hs
    refine call_ro (dep := 1000) (E := (E62 L N)) (rs := (.one .bool)) (v := (.tv .bool y)) (sound_of hΦ) okP (callI_sound (sound_of hΦ) okP 0 1000) (f := Try.f62) rfl hs ha ?_ rfl site
    refine (f62.b_eq L N some d.1).trans ?_
    refine ((f62.b_nat (fun y => (some (.tv .bool y) : Option AV)) L N some d.1)).trans ?_
    rw [show f62.b L N some d.1 = some y from hy]
    rfl
  · intro y hy
    cases hy
def Φ62 (L N : Nat) : Tells := (addT (Φ79 L N) 62 (f62.ent L N))
theorem Φ62_ok (L N : Nat) : TellsOk Try.prog (Φ62 L N) := addT_ok (Φ79_ok L N) (f62.ok L N (Φ79_ok L N))
def f96.b' {R : Type} (L N : Nat) (k : Int → Option R) (x0 : Int) : Option R :=
  bif (decide (x0 > (0 : Int))) then
    k (wi ((wi ((4 : Int) + x0)) - (1 : Int)))
  else k (wi ((wi (0 - x0)) - (1 : Int)))
def f96.b {R : Type} (L N : Nat) (k : Int → Option R) (x0 : Int) : Option R :=
  f96.b' L N k x0
def f96 (L N : Nat) (x0 : Int) : Option (Int) := f96.b L N some x0
def f96.ent (L N : Nat) (args : List AV) (vw : View) (site : Nat) : Ans := match roD [i64] vw args with
  | some d => ⟨Int, f96 L N d.1, fun y => ((.tv i64 y), [], [])⟩
  | none => Ans.no
noncomputable def E96 (L N : Nat) : Env := { P := Try.prog, ty := tyOf, Φ := (Φ62 L N), inl := fun _ => false, live := lives, liveX := livesX, L := L }
theorem f96.b_pre {R : Type} (L N : Nat) (κ : AV → Option R) (x0 : Int) :
    evBody (E96 L N) (evCallI (E96 L N) 0 1000) 1000 96 Try.f96 [(.tv i64 x0)] [] [] (finC (.one i64) κ)
    = f96.b' L N (fun a0 => κ (.tv i64 a0)) x0 := by kernel_rfl
theorem f96.b_eq {R : Type} (L N : Nat) (κ : AV → Option R) (x0 : Int) :
    evBody (E96 L N) (evCallI (E96 L N) 0 1000) 1000 96 Try.f96 [(.tv i64 x0)] [] [] (finC (.one i64) κ)
    = f96.b L N (fun a0 => κ (.tv i64 a0)) x0 := by
  rw [f96.b_pre]
  unfold f96.b
  rfl
theorem f96.b'_nat {R R' : Type} (j : R → Option R') (L N : Nat) (k : Int → Option R) (x0 : Int) :
    f96.b' L N (fun a0 => (k a0).bind j) x0 = (f96.b' L N k x0).bind j := by
  unfold f96.b'
  repeat' (first | (with_reducible refine cond_nat ?_ ?_) | (with_reducible refine bind_nat fun _ => ?_) | rfl)
theorem f96.b_nat {R R' : Type} (j : R → Option R') (L N : Nat) (k : Int → Option R) (x0 : Int) :
    f96.b L N (fun a0 => (k a0).bind j) x0 = (f96.b L N k x0).bind j := by
  unfold f96.b
  exact f96.b'_nat ..
theorem f96.ok (L N : Nat) (hΦ : TellsOk Try.prog ((Φ62 L N))) : EntOk Try.prog 96 (f96.ent L N) := by
  intro args vw site h
  unfold f96.ent
  split
  · rename_i d ha
    intro y hy hs
    refine call_ro (dep := 1000) (E := (E96 L N)) (rs := (.one i64)) (v := (.tv i64 y)) (sound_of hΦ) okP (callI_sound (sound_of hΦ) okP 0 1000) (f := Try.f96) rfl hs ha ?_ rfl site
    refine (f96.b_eq L N some d.1).trans ?_
    refine ((f96.b_nat (fun y => (some (.tv i64 y) : Option AV)) L N some d.1)).trans ?_
    rw [show f96.b L N some d.1 = some y from hy]
    rfl
  · intro y hy
    cases hy
def Φ96 (L N : Nat) : Tells := (addT (Φ62 L N) 96 (f96.ent L N))
theorem Φ96_ok (L N : Nat) : TellsOk Try.prog (Φ96 L N) := addT_ok (Φ62_ok L N) (f96.ok L N (Φ62_ok L N))
def f80.s0' {R : Type} (L N : Nat) (k0_e0 : Bool → (List Bool) → Option R) (rec0 : Int → Bool → Int → (List (List Move)) → (List Bool) → Option R) (s0 : Int) (s1 : Bool) (s2 : Int) (s3 : (List (List Move))) (s4 : (List Bool)) : Option R :=
  bif (decide (0 ≤ s0) && decide (s0 < (s3.length : Int))) then
    bif (decide (s2 < ((listAt s3 [] s0.toNat).length : Int))) then
      bif (decide (0 ≤ s0) && decide (s0 < (s3.length : Int))) then
        bif (decide (0 ≤ s2) && decide (s2 < ((listAt s3 [] s0.toNat).length : Int))) then
          bif ((listAt (listAt s3 [] s0.toNat) (Ty.dflt (.st 0)) s2.toNat).act == (0 : Int)) then
            rec0 s0 false (wi (s2 + (1 : Int))) s3 s4
          else (f96 L N ((listAt (listAt s3 [] s0.toNat) (Ty.dflt (.st 0)) s2.toNat).act)).bind fun y7 =>
          bif (decide (0 ≤ y7) && decide (y7 < (s4.length : Int))) then
            rec0 s0 s1 (wi (s2 + (1 : Int))) s3 (s4.set y7.toNat true)
          else none
        else none
      else none
    else k0_e0 s1 s4
  else none
def f80.s0 {R : Type} (L N : Nat) (k0_e0 : Bool → (List Bool) → Option R) (rec0 : Int → Bool → Int → (List (List Move)) → (List Bool) → Option R) (s0 : Int) (s1 : Bool) (s2 : Int) (s3 : (List (List Move))) (s4 : (List Bool)) : Option R :=
  f80.s0' L N k0_e0 rec0 s0 s1 s2 s3 s4
def f80.l0 {R : Type} (L N : Nat) (k0_e0 : Bool → (List Bool) → Option R) : Nat → Int → Bool → Int → (List (List Move)) → (List Bool) → Option R
  | 0, _, _, _, _, _ => none
  | n + 1, s0, s1, s2, s3, s4 => f80.s0 L N k0_e0 (f80.l0 L N k0_e0 n) s0 s1 s2 s3 s4
def f80.T0 (s0 : Int) (s1 : Bool) (s2 : Int) (s3 : (List (List Move))) (s4 : (List Bool)) : T := mkT 38 [(1, (.tv i64 s0)), (2, (.ptr 1002 0)), (6, (.row 1010)), (7, (.tv .bool s1)), (8, (.tv i64 s2))]
def f80.H0 (s0 : Int) (s1 : Bool) (s2 : Int) (s3 : (List (List Move))) (s4 : (List Bool)) : H := [(1002, (.box [(.tv (.sl (.sl (.st 0))) s3)])), (1010, (.row 4 .bool s4))]
def f80.T0_e0 (z5 : Bool) (z6 : (List Bool)) : T := mkT 38 [(6, (.row 1010)), (7, (.tv .bool z5))]
def f80.H0_e0 (z5 : Bool) (z6 : (List Bool)) : H := [(1010, (.row 4 .bool z6))]
def f80.p0_e0' {R : Type} (L N : Nat) (k : (List Bool) → Bool → Option R) (z5 : Bool) (z6 : (List Bool)) : Option R :=
  k z6 z5
def f80.p0_e0 {R : Type} (L N : Nat) (k : (List Bool) → Bool → Option R) (z5 : Bool) (z6 : (List Bool)) : Option R :=
  f80.p0_e0' L N k z5 z6
def f80.b' {R : Type} (L N : Nat) (k : (List Bool) → Bool → Option R) (w0 : Int → Bool → Int → (List (List Move)) → (List Bool) → Option R) (x0 : Graph) (x1 : Int) : Option R :=
  bif (decide (0 ≤ (8 : Int)) && decide ((8 : Int) ≤ (lim : Int))) then
    w0 x1 true (0 : Int) x0.moves (List.replicate (8 : Int).toNat false)
  else none
def f80.b {R : Type} (L N : Nat) (k : (List Bool) → Bool → Option R) (x0 : Graph) (x1 : Int) : Option R :=
  f80.b' L N k (fun s0 s1 s2 s3 s4 => f80.l0 L N (fun z5 z6 => f80.p0_e0 L N k z5 z6) L s0 s1 s2 s3 s4) x0 x1
def f80 (L N : Nat) (x0 : Graph) (x1 : Int) : Option ((List Bool) × Bool) := f80.b L N (fun a0 a1 => some (a0, a1)) x0 x1
def f80.ent (L N : Nat) (args : List AV) (vw : View) (site : Nat) : Ans := match coeD [(.st 2), i64] vw args with
  | some (d, u) => ⟨(List Bool) × Bool, f80 L N d.1 d.2.1, fun y => ((.tup [(.tv (.sl .bool) y.1), (.tv .bool y.2)]), u, [])⟩
  | none => Ans.no
noncomputable def E80 (L N : Nat) : Env := { P := Try.prog, ty := tyOf, Φ := (Φ96 L N), inl := fun _ => false, live := lives, liveX := livesX, L := L }
noncomputable def f80.c0 : Code := loopAt 0 (codeOf Try.f80)
theorem f80.s0_pre {R : Type} (L N : Nat) (κ : Ex → T → H → Option R) (rec : T → H → Option R) (s0 : Int) (s1 : Bool) (s2 : Int) (s3 : (List (List Move))) (s4 : (List Bool)) :
    evRd (E80 L N) (evCallI (E80 L N) 0 1000) 1000 80 38 0 f80.c0 κ rec (f80.T0 s0 s1 s2 s3 s4) (f80.H0 s0 s1 s2 s3 s4)
    = f80.s0' L N (fun z5 z6 => κ (.exit 0) (f80.T0_e0 z5 z6) (f80.H0_e0 z5 z6)) (fun s0 s1 s2 s3 s4 => rec (f80.T0 s0 s1 s2 s3 s4) (f80.H0 s0 s1 s2 s3 s4)) s0 s1 s2 s3 s4 := by kernel_rfl
theorem f80.s0_eq {R : Type} (L N : Nat) (κ : Ex → T → H → Option R) (rec : T → H → Option R) (s0 : Int) (s1 : Bool) (s2 : Int) (s3 : (List (List Move))) (s4 : (List Bool)) :
    evRd (E80 L N) (evCallI (E80 L N) 0 1000) 1000 80 38 0 f80.c0 κ rec (f80.T0 s0 s1 s2 s3 s4) (f80.H0 s0 s1 s2 s3 s4)
    = f80.s0 L N (fun z5 z6 => κ (.exit 0) (f80.T0_e0 z5 z6) (f80.H0_e0 z5 z6)) (fun s0 s1 s2 s3 s4 => rec (f80.T0 s0 s1 s2 s3 s4) (f80.H0 s0 s1 s2 s3 s4)) s0 s1 s2 s3 s4 := by
  rw [f80.s0_pre]
  unfold f80.s0
  rfl
theorem f80.l0_eq {R : Type} (L N : Nat) (κ : Ex → T → H → Option R) : ∀ (n : Nat) (s0 : Int) (s1 : Bool) (s2 : Int) (s3 : (List (List Move))) (s4 : (List Bool)),
    evLp (E80 L N) (evCallI (E80 L N) 0 1000) 1000 80 38 0 f80.c0 κ n (f80.T0 s0 s1 s2 s3 s4) (f80.H0 s0 s1 s2 s3 s4)
    = f80.l0 L N (fun z5 z6 => κ (.exit 0) (f80.T0_e0 z5 z6) (f80.H0_e0 z5 z6)) n s0 s1 s2 s3 s4 := by
  intro n
  induction n with
  | zero => intros; rfl
  | succ n ih =>
    intro s0 s1 s2 s3 s4
    rw [evLp_succ, f80.s0_eq]
    simp only [ih]
    rfl
theorem f80.p0_e0_pre {R : Type} (L N : Nat) (κ : AV → Option R) (z5 : Bool) (z6 : (List Bool)) :
    (contAt (E80 L N) (evCallI (E80 L N) 0 1000) 1000 80 38 0 (codeOf Try.f80) (finK (E80 L N) 1000 Try.f80 (finC (.many [(.sl .bool), .bool]) κ))) (.exit 0) (f80.T0_e0 z5 z6) (f80.H0_e0 z5 z6)
    = f80.p0_e0' L N (fun a0 a1 => κ (.tup [(.tv (.sl .bool) a0), (.tv .bool a1)])) z5 z6 := by kernel_rfl
theorem f80.p0_e0_eq {R : Type} (L N : Nat) (κ : AV → Option R) (z5 : Bool) (z6 : (List Bool)) :
    (contAt (E80 L N) (evCallI (E80 L N) 0 1000) 1000 80 38 0 (codeOf Try.f80) (finK (E80 L N) 1000 Try.f80 (finC (.many [(.sl .bool), .bool]) κ))) (.exit 0) (f80.T0_e0 z5 z6) (f80.H0_e0 z5 z6)
    = f80.p0_e0 L N (fun a0 a1 => κ (.tup [(.tv (.sl .bool) a0), (.tv .bool a1)])) z5 z6 := by
  rw [f80.p0_e0_pre]
  unfold f80.p0_e0
  rfl
theorem f80.b_pre {R : Type} (L N : Nat) (κ : AV → Option R) (x0 : Graph) (x1 : Int) :
    evBody (E80 L N) (evCallI (E80 L N) 0 1000) 1000 80 Try.f80 [(.tv (.st 2) x0), (.tv i64 x1)] [] [] (finC (.many [(.sl .bool), .bool]) κ)
    = f80.b' L N (fun a0 a1 => κ (.tup [(.tv (.sl .bool) a0), (.tv .bool a1)])) (fun s0 s1 s2 s3 s4 => evLp (E80 L N) (evCallI (E80 L N) 0 1000) 1000 80 38 0 f80.c0 (contAt (E80 L N) (evCallI (E80 L N) 0 1000) 1000 80 38 0 (codeOf Try.f80) (finK (E80 L N) 1000 Try.f80 (finC (.many [(.sl .bool), .bool]) κ))) L (f80.T0 s0 s1 s2 s3 s4) (f80.H0 s0 s1 s2 s3 s4)) x0 x1 := by kernel_rfl
theorem f80.b_eq {R : Type} (L N : Nat) (κ : AV → Option R) (x0 : Graph) (x1 : Int) :
    evBody (E80 L N) (evCallI (E80 L N) 0 1000) 1000 80 Try.f80 [(.tv (.st 2) x0), (.tv i64 x1)] [] [] (finC (.many [(.sl .bool), .bool]) κ)
    = f80.b L N (fun a0 a1 => κ (.tup [(.tv (.sl .bool) a0), (.tv .bool a1)])) x0 x1 := by
  rw [f80.b_pre]
  unfold f80.b
  simp only [f80.l0_eq, f80.p0_e0_eq]
theorem f80.s0'_nat {R R' : Type} (j : R → Option R') (L N : Nat) (k0_e0 : Bool → (List Bool) → Option R) (rec0 : Int → Bool → Int → (List (List Move)) → (List Bool) → Option R) (s0 : Int) (s1 : Bool) (s2 : Int) (s3 : (List (List Move))) (s4 : (List Bool)) :
    f80.s0' L N (fun a0 a1 => (k0_e0 a0 a1).bind j) (fun a0 a1 a2 a3 a4 => (rec0 a0 a1 a2 a3 a4).bind j) s0 s1 s2 s3 s4 = (f80.s0' L N k0_e0 rec0 s0 s1 s2 s3 s4).bind j := by
  unfold f80.s0'
  repeat' (first | (with_reducible refine cond_nat ?_ ?_) | (with_reducible refine bind_nat fun _ => ?_) | rfl)
theorem f80.s0_nat {R R' : Type} (j : R → Option R') (L N : Nat) (k0_e0 : Bool → (List Bool) → Option R) (rec0 : Int → Bool → Int → (List (List Move)) → (List Bool) → Option R) (s0 : Int) (s1 : Bool) (s2 : Int) (s3 : (List (List Move))) (s4 : (List Bool)) :
    f80.s0 L N (fun a0 a1 => (k0_e0 a0 a1).bind j) (fun a0 a1 a2 a3 a4 => (rec0 a0 a1 a2 a3 a4).bind j) s0 s1 s2 s3 s4 = (f80.s0 L N k0_e0 rec0 s0 s1 s2 s3 s4).bind j := by
  unfold f80.s0
  exact f80.s0'_nat ..
theorem f80.l0_nat {R R' : Type} (j : R → Option R') (L N : Nat) (k0_e0 : Bool → (List Bool) → Option R) : ∀ (n : Nat) (s0 : Int) (s1 : Bool) (s2 : Int) (s3 : (List (List Move))) (s4 : (List Bool)),
    f80.l0 L N (fun a0 a1 => (k0_e0 a0 a1).bind j) n s0 s1 s2 s3 s4 = (f80.l0 L N k0_e0 n s0 s1 s2 s3 s4).bind j := by
  intro n
  induction n with
  | zero => intros; rfl
  | succ n ih =>
    intro s0 s1 s2 s3 s4
    show f80.s0 L N (fun a0 a1 => (k0_e0 a0 a1).bind j) (f80.l0 L N (fun a0 a1 => (k0_e0 a0 a1).bind j) n) s0 s1 s2 s3 s4 = _
    rw [show f80.l0 L N (fun a0 a1 => (k0_e0 a0 a1).bind j) n = (fun s0 s1 s2 s3 s4 => (f80.l0 L N k0_e0 n s0 s1 s2 s3 s4).bind j) from funext fun s0 => funext fun s1 => funext fun s2 => funext fun s3 => funext fun s4 => ih s0 s1 s2 s3 s4]
    exact f80.s0_nat ..
theorem f80.p0_e0'_nat {R R' : Type} (j : R → Option R') (L N : Nat) (k : (List Bool) → Bool → Option R) (z5 : Bool) (z6 : (List Bool)) :
    f80.p0_e0' L N (fun a0 a1 => (k a0 a1).bind j) z5 z6 = (f80.p0_e0' L N k z5 z6).bind j := by
  unfold f80.p0_e0'
  repeat' (first | (with_reducible refine cond_nat ?_ ?_) | (with_reducible refine bind_nat fun _ => ?_) | rfl)
theorem f80.p0_e0_nat {R R' : Type} (j : R → Option R') (L N : Nat) (k : (List Bool) → Bool → Option R) (z5 : Bool) (z6 : (List Bool)) :
    f80.p0_e0 L N (fun a0 a1 => (k a0 a1).bind j) z5 z6 = (f80.p0_e0 L N k z5 z6).bind j := by
  unfold f80.p0_e0
  exact f80.p0_e0'_nat ..
theorem f80.b'_nat {R R' : Type} (j : R → Option R') (L N : Nat) (k : (List Bool) → Bool → Option R) (w0 : Int → Bool → Int → (List (List Move)) → (List Bool) → Option R) (x0 : Graph) (x1 : Int) :
    f80.b' L N (fun a0 a1 => (k a0 a1).bind j) (fun a0 a1 a2 a3 a4 => (w0 a0 a1 a2 a3 a4).bind j) x0 x1 = (f80.b' L N k w0 x0 x1).bind j := by
  unfold f80.b'
  repeat' (first | (with_reducible refine cond_nat ?_ ?_) | (with_reducible refine bind_nat fun _ => ?_) | rfl)
theorem f80.b_nat {R R' : Type} (j : R → Option R') (L N : Nat) (k : (List Bool) → Bool → Option R) (x0 : Graph) (x1 : Int) :
    f80.b L N (fun a0 a1 => (k a0 a1).bind j) x0 x1 = (f80.b L N k x0 x1).bind j := by
  unfold f80.b
  simp only [f80.l0_nat, f80.p0_e0_nat]
  exact f80.b'_nat ..
theorem f80.ok (L N : Nat) (hΦ : TellsOk Try.prog ((Φ96 L N))) : EntOk Try.prog 80 (f80.ent L N) := by
  intro args vw site h
  unfold f80.ent
  split
  · rename_i d u ha
    intro y hy hs
    refine call_data (dep := 1000) (E := (E80 L N)) (rs := (.many [(.sl .bool), .bool])) (v' := (.tup [(.tv (.sl .bool) y.1), (.tv .bool y.2)])) (sound_of hΦ) okP (callI_sound (sound_of hΦ) okP 0 1000) (f := Try.f80) rfl hs ha ?_ site
    refine (f80.b_eq L N some d.1 d.2.1).trans ?_
    refine ((f80.b_nat (fun y => (some (.tup [(.tv (.sl .bool) y.1), (.tv .bool y.2)]) : Option AV)) L N (fun a0 a1 => some (a0, a1)) d.1 d.2.1)).trans ?_
    rw [show f80.b L N (fun a0 a1 => some (a0, a1)) d.1 d.2.1 = some y from hy]
    rfl
  · intro y hy
    cases hy
def Φ80 (L N : Nat) : Tells := (addT (Φ96 L N) 80 (f80.ent L N))
theorem Φ80_ok (L N : Nat) : TellsOk Try.prog (Φ80 L N) := addT_ok (Φ96_ok L N) (f80.ok L N (Φ96_ok L N))
def f63.s0' {R : Type} (L N : Nat) (k0_e0 : Bool → Option R) (k0_r : Bool → Bool → Option R) (rec0 : (List Bool) → (List Bool) → Bool → Int → Option R) (s1 : (List Bool)) (s2 : (List Bool)) (s3 : Bool) (s4 : Int) : Option R :=
  bif (decide (s4 < (s1.length : Int))) then
    bif (decide (0 ≤ s4) && decide (s4 < (s1.length : Int))) then
      bif (listAt s1 false s4.toNat) then
        bif (decide (0 ≤ s4) && decide (s4 < (s2.length : Int))) then
          bif (listAt s2 false s4.toNat) then
            k0_r false s3
          else rec0 s1 s2 s3 (wi (s4 + (1 : Int)))
        else none
      else rec0 s1 s2 s3 (wi (s4 + (1 : Int)))
    else none
  else k0_e0 s3
def f63.s0 {R : Type} (L N : Nat) (k0_e0 : Bool → Option R) (k0_r : Bool → Bool → Option R) (rec0 : (List Bool) → (List Bool) → Bool → Int → Option R) (s1 : (List Bool)) (s2 : (List Bool)) (s3 : Bool) (s4 : Int) : Option R :=
  f63.s0' L N k0_e0 k0_r rec0 s1 s2 s3 s4
def f63.l0 {R : Type} (L N : Nat) (k0_e0 : Bool → Option R) (k0_r : Bool → Bool → Option R) : Nat → (List Bool) → (List Bool) → Bool → Int → Option R
  | 0, _, _, _, _ => none
  | n + 1, s1, s2, s3, s4 => f63.s0 L N k0_e0 k0_r (f63.l0 L N k0_e0 k0_r n) s1 s2 s3 s4
def f63.T0 (s1 : (List Bool)) (s2 : (List Bool)) (s3 : Bool) (s4 : Int) : T := mkT 33 [(2, (.tv (.sl .bool) s1)), (7, (.tv (.sl .bool) s2)), (8, (.tv .bool s3)), (9, (.tv i64 s4))]
def f63.H0 (s1 : (List Bool)) (s2 : (List Bool)) (s3 : Bool) (s4 : Int) : H := []
def f63.T0_e0 (z5 : Bool) : T := mkT 33 [(8, (.tv .bool z5))]
def f63.H0_e0 (z5 : Bool) : H := []
def f63.T0_r (z11 : Bool) (z12 : Bool) : T := mkT 33 [(6, (.tv .bool z11)), (8, (.tv .bool z12))]
def f63.H0_r (z11 : Bool) (z12 : Bool) : H := []
def f63.p0_e0' {R : Type} (L N : Nat) (k : Bool → Option R) (z5 : Bool) : Option R :=
  k z5
def f63.p0_e0 {R : Type} (L N : Nat) (k : Bool → Option R) (z5 : Bool) : Option R :=
  f63.p0_e0' L N k z5
def f63.p0_r' {R : Type} (L N : Nat) (k : Bool → Option R) (z11 : Bool) (z12 : Bool) : Option R :=
  k z11
def f63.p0_r {R : Type} (L N : Nat) (k : Bool → Option R) (z11 : Bool) (z12 : Bool) : Option R :=
  f63.p0_r' L N k z11 z12
def f63.b' {R : Type} (L N : Nat) (k : Bool → Option R) (w0 : (List Bool) → (List Bool) → Bool → Int → Option R) (x0 : Graph) (x1 : Int) (x2 : (List Bool)) : Option R :=
  (f80 L N (Graph.mk x0.moves) x1).bind fun y0 =>
  w0 x2 y0.1 y0.2 (0 : Int)
def f63.b {R : Type} (L N : Nat) (k : Bool → Option R) (x0 : Graph) (x1 : Int) (x2 : (List Bool)) : Option R :=
  f63.b' L N k (fun s1 s2 s3 s4 => f63.l0 L N (fun z5 => f63.p0_e0 L N k z5) (fun z11 z12 => f63.p0_r L N k z11 z12) L s1 s2 s3 s4) x0 x1 x2
def f63 (L N : Nat) (x0 : Graph) (x1 : Int) (x2 : (List Bool)) : Option (Bool) := f63.b L N some x0 x1 x2
def f63.ent (L N : Nat) (args : List AV) (vw : View) (site : Nat) : Ans := match roD [(.st 2), i64, (.sl .bool)] vw args with
  | some d => ⟨Bool, f63 L N d.1 d.2.1 d.2.2.1, fun y => ((.tv .bool y), [], [])⟩
  | none => Ans.no
noncomputable def E63 (L N : Nat) : Env := { P := Try.prog, ty := tyOf, Φ := (Φ80 L N), inl := fun _ => false, live := lives, liveX := livesX, L := L }
noncomputable def f63.c0 : Code := loopAt 0 (codeOf Try.f63)
theorem f63.s0_pre {R : Type} (L N : Nat) (κ : Ex → T → H → Option R) (rec : T → H → Option R) (s1 : (List Bool)) (s2 : (List Bool)) (s3 : Bool) (s4 : Int) :
    evRd (E63 L N) (evCallI (E63 L N) 0 1000) 1000 63 33 0 f63.c0 κ rec (f63.T0 s1 s2 s3 s4) (f63.H0 s1 s2 s3 s4)
    = f63.s0' L N (fun z5 => κ (.exit 0) (f63.T0_e0 z5) (f63.H0_e0 z5)) (fun z11 z12 => κ .ret (f63.T0_r z11 z12) (f63.H0_r z11 z12)) (fun s1 s2 s3 s4 => rec (f63.T0 s1 s2 s3 s4) (f63.H0 s1 s2 s3 s4)) s1 s2 s3 s4 := by kernel_rfl
theorem f63.s0_eq {R : Type} (L N : Nat) (κ : Ex → T → H → Option R) (rec : T → H → Option R) (s1 : (List Bool)) (s2 : (List Bool)) (s3 : Bool) (s4 : Int) :
    evRd (E63 L N) (evCallI (E63 L N) 0 1000) 1000 63 33 0 f63.c0 κ rec (f63.T0 s1 s2 s3 s4) (f63.H0 s1 s2 s3 s4)
    = f63.s0 L N (fun z5 => κ (.exit 0) (f63.T0_e0 z5) (f63.H0_e0 z5)) (fun z11 z12 => κ .ret (f63.T0_r z11 z12) (f63.H0_r z11 z12)) (fun s1 s2 s3 s4 => rec (f63.T0 s1 s2 s3 s4) (f63.H0 s1 s2 s3 s4)) s1 s2 s3 s4 := by
  rw [f63.s0_pre]
  unfold f63.s0
  rfl
theorem f63.l0_eq {R : Type} (L N : Nat) (κ : Ex → T → H → Option R) : ∀ (n : Nat) (s1 : (List Bool)) (s2 : (List Bool)) (s3 : Bool) (s4 : Int),
    evLp (E63 L N) (evCallI (E63 L N) 0 1000) 1000 63 33 0 f63.c0 κ n (f63.T0 s1 s2 s3 s4) (f63.H0 s1 s2 s3 s4)
    = f63.l0 L N (fun z5 => κ (.exit 0) (f63.T0_e0 z5) (f63.H0_e0 z5)) (fun z11 z12 => κ .ret (f63.T0_r z11 z12) (f63.H0_r z11 z12)) n s1 s2 s3 s4 := by
  intro n
  induction n with
  | zero => intros; rfl
  | succ n ih =>
    intro s1 s2 s3 s4
    rw [evLp_succ, f63.s0_eq]
    simp only [ih]
    rfl
theorem f63.p0_e0_pre {R : Type} (L N : Nat) (κ : AV → Option R) (z5 : Bool) :
    (contAt (E63 L N) (evCallI (E63 L N) 0 1000) 1000 63 33 0 (codeOf Try.f63) (finK (E63 L N) 1000 Try.f63 (finC (.one .bool) κ))) (.exit 0) (f63.T0_e0 z5) (f63.H0_e0 z5)
    = f63.p0_e0' L N (fun a0 => κ (.tv .bool a0)) z5 := by kernel_rfl
theorem f63.p0_e0_eq {R : Type} (L N : Nat) (κ : AV → Option R) (z5 : Bool) :
    (contAt (E63 L N) (evCallI (E63 L N) 0 1000) 1000 63 33 0 (codeOf Try.f63) (finK (E63 L N) 1000 Try.f63 (finC (.one .bool) κ))) (.exit 0) (f63.T0_e0 z5) (f63.H0_e0 z5)
    = f63.p0_e0 L N (fun a0 => κ (.tv .bool a0)) z5 := by
  rw [f63.p0_e0_pre]
  unfold f63.p0_e0
  rfl
theorem f63.p0_r_pre {R : Type} (L N : Nat) (κ : AV → Option R) (z11 : Bool) (z12 : Bool) :
    (contAt (E63 L N) (evCallI (E63 L N) 0 1000) 1000 63 33 0 (codeOf Try.f63) (finK (E63 L N) 1000 Try.f63 (finC (.one .bool) κ))) .ret (f63.T0_r z11 z12) (f63.H0_r z11 z12)
    = f63.p0_r' L N (fun a0 => κ (.tv .bool a0)) z11 z12 := by kernel_rfl
theorem f63.p0_r_eq {R : Type} (L N : Nat) (κ : AV → Option R) (z11 : Bool) (z12 : Bool) :
    (contAt (E63 L N) (evCallI (E63 L N) 0 1000) 1000 63 33 0 (codeOf Try.f63) (finK (E63 L N) 1000 Try.f63 (finC (.one .bool) κ))) .ret (f63.T0_r z11 z12) (f63.H0_r z11 z12)
    = f63.p0_r L N (fun a0 => κ (.tv .bool a0)) z11 z12 := by
  rw [f63.p0_r_pre]
  unfold f63.p0_r
  rfl
theorem f63.b_pre {R : Type} (L N : Nat) (κ : AV → Option R) (x0 : Graph) (x1 : Int) (x2 : (List Bool)) :
    evBody (E63 L N) (evCallI (E63 L N) 0 1000) 1000 63 Try.f63 [(.tv (.st 2) x0), (.tv i64 x1), (.tv (.sl .bool) x2)] [] [] (finC (.one .bool) κ)
    = f63.b' L N (fun a0 => κ (.tv .bool a0)) (fun s1 s2 s3 s4 => evLp (E63 L N) (evCallI (E63 L N) 0 1000) 1000 63 33 0 f63.c0 (contAt (E63 L N) (evCallI (E63 L N) 0 1000) 1000 63 33 0 (codeOf Try.f63) (finK (E63 L N) 1000 Try.f63 (finC (.one .bool) κ))) L (f63.T0 s1 s2 s3 s4) (f63.H0 s1 s2 s3 s4)) x0 x1 x2 := by kernel_rfl
theorem f63.b_eq {R : Type} (L N : Nat) (κ : AV → Option R) (x0 : Graph) (x1 : Int) (x2 : (List Bool)) :
    evBody (E63 L N) (evCallI (E63 L N) 0 1000) 1000 63 Try.f63 [(.tv (.st 2) x0), (.tv i64 x1), (.tv (.sl .bool) x2)] [] [] (finC (.one .bool) κ)
    = f63.b L N (fun a0 => κ (.tv .bool a0)) x0 x1 x2 := by
  rw [f63.b_pre]
  unfold f63.b
  simp only [f63.l0_eq, f63.p0_e0_eq, f63.p0_r_eq]
theorem f63.s0'_nat {R R' : Type} (j : R → Option R') (L N : Nat) (k0_e0 : Bool → Option R) (k0_r : Bool → Bool → Option R) (rec0 : (List Bool) → (List Bool) → Bool → Int → Option R) (s1 : (List Bool)) (s2 : (List Bool)) (s3 : Bool) (s4 : Int) :
    f63.s0' L N (fun a0 => (k0_e0 a0).bind j) (fun a0 a1 => (k0_r a0 a1).bind j) (fun a0 a1 a2 a3 => (rec0 a0 a1 a2 a3).bind j) s1 s2 s3 s4 = (f63.s0' L N k0_e0 k0_r rec0 s1 s2 s3 s4).bind j := by
  unfold f63.s0'
  repeat' (first | (with_reducible refine cond_nat ?_ ?_) | (with_reducible refine bind_nat fun _ => ?_) | rfl)
theorem f63.s0_nat {R R' : Type} (j : R → Option R') (L N : Nat) (k0_e0 : Bool → Option R) (k0_r : Bool → Bool → Option R) (rec0 : (List Bool) → (List Bool) → Bool → Int → Option R) (s1 : (List Bool)) (s2 : (List Bool)) (s3 : Bool) (s4 : Int) :
    f63.s0 L N (fun a0 => (k0_e0 a0).bind j) (fun a0 a1 => (k0_r a0 a1).bind j) (fun a0 a1 a2 a3 => (rec0 a0 a1 a2 a3).bind j) s1 s2 s3 s4 = (f63.s0 L N k0_e0 k0_r rec0 s1 s2 s3 s4).bind j := by
  unfold f63.s0
  exact f63.s0'_nat ..
theorem f63.l0_nat {R R' : Type} (j : R → Option R') (L N : Nat) (k0_e0 : Bool → Option R) (k0_r : Bool → Bool → Option R) : ∀ (n : Nat) (s1 : (List Bool)) (s2 : (List Bool)) (s3 : Bool) (s4 : Int),
    f63.l0 L N (fun a0 => (k0_e0 a0).bind j) (fun a0 a1 => (k0_r a0 a1).bind j) n s1 s2 s3 s4 = (f63.l0 L N k0_e0 k0_r n s1 s2 s3 s4).bind j := by
  intro n
  induction n with
  | zero => intros; rfl
  | succ n ih =>
    intro s1 s2 s3 s4
    show f63.s0 L N (fun a0 => (k0_e0 a0).bind j) (fun a0 a1 => (k0_r a0 a1).bind j) (f63.l0 L N (fun a0 => (k0_e0 a0).bind j) (fun a0 a1 => (k0_r a0 a1).bind j) n) s1 s2 s3 s4 = _
    rw [show f63.l0 L N (fun a0 => (k0_e0 a0).bind j) (fun a0 a1 => (k0_r a0 a1).bind j) n = (fun s1 s2 s3 s4 => (f63.l0 L N k0_e0 k0_r n s1 s2 s3 s4).bind j) from funext fun s1 => funext fun s2 => funext fun s3 => funext fun s4 => ih s1 s2 s3 s4]
    exact f63.s0_nat ..
theorem f63.p0_e0'_nat {R R' : Type} (j : R → Option R') (L N : Nat) (k : Bool → Option R) (z5 : Bool) :
    f63.p0_e0' L N (fun a0 => (k a0).bind j) z5 = (f63.p0_e0' L N k z5).bind j := by
  unfold f63.p0_e0'
  repeat' (first | (with_reducible refine cond_nat ?_ ?_) | (with_reducible refine bind_nat fun _ => ?_) | rfl)
theorem f63.p0_e0_nat {R R' : Type} (j : R → Option R') (L N : Nat) (k : Bool → Option R) (z5 : Bool) :
    f63.p0_e0 L N (fun a0 => (k a0).bind j) z5 = (f63.p0_e0 L N k z5).bind j := by
  unfold f63.p0_e0
  exact f63.p0_e0'_nat ..
theorem f63.p0_r'_nat {R R' : Type} (j : R → Option R') (L N : Nat) (k : Bool → Option R) (z11 : Bool) (z12 : Bool) :
    f63.p0_r' L N (fun a0 => (k a0).bind j) z11 z12 = (f63.p0_r' L N k z11 z12).bind j := by
  unfold f63.p0_r'
  repeat' (first | (with_reducible refine cond_nat ?_ ?_) | (with_reducible refine bind_nat fun _ => ?_) | rfl)
theorem f63.p0_r_nat {R R' : Type} (j : R → Option R') (L N : Nat) (k : Bool → Option R) (z11 : Bool) (z12 : Bool) :
    f63.p0_r L N (fun a0 => (k a0).bind j) z11 z12 = (f63.p0_r L N k z11 z12).bind j := by
  unfold f63.p0_r
  exact f63.p0_r'_nat ..
theorem f63.b'_nat {R R' : Type} (j : R → Option R') (L N : Nat) (k : Bool → Option R) (w0 : (List Bool) → (List Bool) → Bool → Int → Option R) (x0 : Graph) (x1 : Int) (x2 : (List Bool)) :
    f63.b' L N (fun a0 => (k a0).bind j) (fun a0 a1 a2 a3 => (w0 a0 a1 a2 a3).bind j) x0 x1 x2 = (f63.b' L N k w0 x0 x1 x2).bind j := by
  unfold f63.b'
  repeat' (first | (with_reducible refine cond_nat ?_ ?_) | (with_reducible refine bind_nat fun _ => ?_) | rfl)
theorem f63.b_nat {R R' : Type} (j : R → Option R') (L N : Nat) (k : Bool → Option R) (x0 : Graph) (x1 : Int) (x2 : (List Bool)) :
    f63.b L N (fun a0 => (k a0).bind j) x0 x1 x2 = (f63.b L N k x0 x1 x2).bind j := by
  unfold f63.b
  simp only [f63.l0_nat, f63.p0_e0_nat, f63.p0_r_nat]
  exact f63.b'_nat ..
theorem f63.ok (L N : Nat) (hΦ : TellsOk Try.prog ((Φ80 L N))) : EntOk Try.prog 63 (f63.ent L N) := by
  intro args vw site h
  unfold f63.ent
  split
  · rename_i d ha
    intro y hy hs
    refine call_ro (dep := 1000) (E := (E63 L N)) (rs := (.one .bool)) (v := (.tv .bool y)) (sound_of hΦ) okP (callI_sound (sound_of hΦ) okP 0 1000) (f := Try.f63) rfl hs ha ?_ rfl site
    refine (f63.b_eq L N some d.1 d.2.1 d.2.2.1).trans ?_
    refine ((f63.b_nat (fun y => (some (.tv .bool y) : Option AV)) L N some d.1 d.2.1 d.2.2.1)).trans ?_
    rw [show f63.b L N some d.1 d.2.1 d.2.2.1 = some y from hy]
    rfl
  · intro y hy
    cases hy
def Φ63 (L N : Nat) : Tells := (addT (Φ80 L N) 63 (f63.ent L N))
theorem Φ63_ok (L N : Nat) : TellsOk Try.prog (Φ63 L N) := addT_ok (Φ80_ok L N) (f63.ok L N (Φ80_ok L N))
def f37.b' {R : Type} (L N : Nat) (k : Bool → Option R) (x0 : Graph) (x1 : Int) (x2 : (List Bool)) : Option R :=
  (f62 L N (Graph.mk x0.moves)).bind fun y0 =>
  bif y0 then
    (f49 L N x1 (0 : Int) (wi ((x0.moves.length : Int) - (1 : Int)))).bind fun y1 =>
    bif y1 then
      (f15 L N x2).bind fun y2 =>
      bif y2 then
        (f63 L N (Graph.mk x0.moves) x1 x2).bind fun y3 =>
        k y3
      else k false
    else k false
  else k false
def f37.b {R : Type} (L N : Nat) (k : Bool → Option R) (x0 : Graph) (x1 : Int) (x2 : (List Bool)) : Option R :=
  f37.b' L N k x0 x1 x2
def f37 (L N : Nat) (x0 : Graph) (x1 : Int) (x2 : (List Bool)) : Option (Bool) := f37.b L N some x0 x1 x2
def f37.ent (L N : Nat) (args : List AV) (vw : View) (site : Nat) : Ans := match roD [(.st 2), i64, (.sl .bool)] vw args with
  | some d => ⟨Bool, f37 L N d.1 d.2.1 d.2.2.1, fun y => ((.tv .bool y), [], [])⟩
  | none => Ans.no
noncomputable def E37 (L N : Nat) : Env := { P := Try.prog, ty := tyOf, Φ := (Φ63 L N), inl := fun _ => false, live := lives, liveX := livesX, L := L }
theorem f37.b_pre {R : Type} (L N : Nat) (κ : AV → Option R) (x0 : Graph) (x1 : Int) (x2 : (List Bool)) :
    evBody (E37 L N) (evCallI (E37 L N) 0 1000) 1000 37 Try.f37 [(.tv (.st 2) x0), (.tv i64 x1), (.tv (.sl .bool) x2)] [] [] (finC (.one .bool) κ)
    = f37.b' L N (fun a0 => κ (.tv .bool a0)) x0 x1 x2 := by kernel_rfl
theorem f37.b_eq {R : Type} (L N : Nat) (κ : AV → Option R) (x0 : Graph) (x1 : Int) (x2 : (List Bool)) :
    evBody (E37 L N) (evCallI (E37 L N) 0 1000) 1000 37 Try.f37 [(.tv (.st 2) x0), (.tv i64 x1), (.tv (.sl .bool) x2)] [] [] (finC (.one .bool) κ)
    = f37.b L N (fun a0 => κ (.tv .bool a0)) x0 x1 x2 := by
  rw [f37.b_pre]
  unfold f37.b
  rfl
theorem f37.b'_nat {R R' : Type} (j : R → Option R') (L N : Nat) (k : Bool → Option R) (x0 : Graph) (x1 : Int) (x2 : (List Bool)) :
    f37.b' L N (fun a0 => (k a0).bind j) x0 x1 x2 = (f37.b' L N k x0 x1 x2).bind j := by
  unfold f37.b'
  repeat' (first | (with_reducible refine cond_nat ?_ ?_) | (with_reducible refine bind_nat fun _ => ?_) | rfl)
theorem f37.b_nat {R R' : Type} (j : R → Option R') (L N : Nat) (k : Bool → Option R) (x0 : Graph) (x1 : Int) (x2 : (List Bool)) :
    f37.b L N (fun a0 => (k a0).bind j) x0 x1 x2 = (f37.b L N k x0 x1 x2).bind j := by
  unfold f37.b
  exact f37.b'_nat ..
theorem f37.ok (L N : Nat) (hΦ : TellsOk Try.prog ((Φ63 L N))) : EntOk Try.prog 37 (f37.ent L N) := by
  intro args vw site h
  unfold f37.ent
  split
  · rename_i d ha
    intro y hy hs
    refine call_ro (dep := 1000) (E := (E37 L N)) (rs := (.one .bool)) (v := (.tv .bool y)) (sound_of hΦ) okP (callI_sound (sound_of hΦ) okP 0 1000) (f := Try.f37) rfl hs ha ?_ rfl site
    refine (f37.b_eq L N some d.1 d.2.1 d.2.2.1).trans ?_
    refine ((f37.b_nat (fun y => (some (.tv .bool y) : Option AV)) L N some d.1 d.2.1 d.2.2.1)).trans ?_
    rw [show f37.b L N some d.1 d.2.1 d.2.2.1 = some y from hy]
    rfl
  · intro y hy
    cases hy
def Φ37 (L N : Nat) : Tells := (addT (Φ63 L N) 37 (f37.ent L N))
theorem Φ37_ok (L N : Nat) : TellsOk Try.prog (Φ37 L N) := addT_ok (Φ63_ok L N) (f37.ok L N (Φ63_ok L N))
def f97.b' {R : Type} (L N : Nat) (k : Move → Option R) (x0 : Move) : Option R :=
  k (Move.mk ((Move.mk x0.act x0.to).act) ((Move.mk x0.act x0.to).to))
def f97.b {R : Type} (L N : Nat) (k : Move → Option R) (x0 : Move) : Option R :=
  f97.b' L N k x0
def f97 (L N : Nat) (x0 : Move) : Option (Move) := f97.b L N some x0
def f97.ent (L N : Nat) (args : List AV) (vw : View) (site : Nat) : Ans := match coeD [(.st 0)] vw args with
  | some (d, u) => ⟨Move, f97 L N d.1, fun y => ((.tv (.st 0) y), u, [])⟩
  | none => Ans.no
noncomputable def E97 (L N : Nat) : Env := { P := Try.prog, ty := tyOf, Φ := (Φ37 L N), inl := fun _ => false, live := lives, liveX := livesX, L := L }
theorem f97.b_pre {R : Type} (L N : Nat) (κ : AV → Option R) (x0 : Move) :
    evBody (E97 L N) (evCallI (E97 L N) 0 1000) 1000 97 Try.f97 [(.tv (.st 0) x0)] [] [] (finC (.one (.st 0)) κ)
    = f97.b' L N (fun a0 => κ (.tv (.st 0) a0)) x0 := by kernel_rfl
theorem f97.b_eq {R : Type} (L N : Nat) (κ : AV → Option R) (x0 : Move) :
    evBody (E97 L N) (evCallI (E97 L N) 0 1000) 1000 97 Try.f97 [(.tv (.st 0) x0)] [] [] (finC (.one (.st 0)) κ)
    = f97.b L N (fun a0 => κ (.tv (.st 0) a0)) x0 := by
  rw [f97.b_pre]
  unfold f97.b
  rfl
theorem f97.b'_nat {R R' : Type} (j : R → Option R') (L N : Nat) (k : Move → Option R) (x0 : Move) :
    f97.b' L N (fun a0 => (k a0).bind j) x0 = (f97.b' L N k x0).bind j := by
  unfold f97.b'
  repeat' (first | (with_reducible refine cond_nat ?_ ?_) | (with_reducible refine bind_nat fun _ => ?_) | rfl)
theorem f97.b_nat {R R' : Type} (j : R → Option R') (L N : Nat) (k : Move → Option R) (x0 : Move) :
    f97.b L N (fun a0 => (k a0).bind j) x0 = (f97.b L N k x0).bind j := by
  unfold f97.b
  exact f97.b'_nat ..
theorem f97.ok (L N : Nat) (hΦ : TellsOk Try.prog ((Φ37 L N))) : EntOk Try.prog 97 (f97.ent L N) := by
  intro args vw site h
  unfold f97.ent
  split
  · rename_i d u ha
    intro y hy hs
    refine call_data (dep := 1000) (E := (E97 L N)) (rs := (.one (.st 0))) (v' := (.tv (.st 0) y)) (sound_of hΦ) okP (callI_sound (sound_of hΦ) okP 0 1000) (f := Try.f97) rfl hs ha ?_ site
    refine (f97.b_eq L N some d.1).trans ?_
    refine ((f97.b_nat (fun y => (some (.tv (.st 0) y) : Option AV)) L N some d.1)).trans ?_
    rw [show f97.b L N some d.1 = some y from hy]
    rfl
  · intro y hy
    cases hy
def Φ97 (L N : Nat) : Tells := (addT (Φ37 L N) 97 (f97.ent L N))
theorem Φ97_ok (L N : Nat) : TellsOk Try.prog (Φ97 L N) := addT_ok (Φ37_ok L N) (f97.ok L N (Φ37_ok L N))
def f81.s0' {R : Type} (L N : Nat) (k0_e0 : (List Move) → Option R) (rec0 : (List Move) → Int → (List Move) → Option R) (s0 : (List Move)) (s1 : Int) (s2 : (List Move)) : Option R :=
  bif (decide (s1 < (s0.length : Int))) then
    bif (decide (0 ≤ s1) && decide (s1 < (s0.length : Int))) then
      (f97 L N (listAt s0 (Ty.dflt (.st 0)) s1.toNat)).bind fun y4 =>
      bif (decide (0 ≤ s1) && decide (s1 < (s2.length : Int))) then
        rec0 s0 (wi (s1 + (1 : Int))) (s2.set s1.toNat y4)
      else none
    else none
  else k0_e0 s2
def f81.s0 {R : Type} (L N : Nat) (k0_e0 : (List Move) → Option R) (rec0 : (List Move) → Int → (List Move) → Option R) (s0 : (List Move)) (s1 : Int) (s2 : (List Move)) : Option R :=
  f81.s0' L N k0_e0 rec0 s0 s1 s2
def f81.l0 {R : Type} (L N : Nat) (k0_e0 : (List Move) → Option R) : Nat → (List Move) → Int → (List Move) → Option R
  | 0, _, _, _ => none
  | n + 1, s0, s1, s2 => f81.s0 L N k0_e0 (f81.l0 L N k0_e0 n) s0 s1 s2
def f81.T0 (s0 : (List Move)) (s1 : Int) (s2 : (List Move)) : T := mkT 23 [(0, (.tv (.sl (.st 0)) s0)), (3, (.row 1007)), (4, (.tv i64 s1))]
def f81.H0 (s0 : (List Move)) (s1 : Int) (s2 : (List Move)) : H := [(1007, (.row 64 (.st 0) s2))]
def f81.T0_e0 (z3 : (List Move)) : T := mkT 23 [(3, (.row 1007))]
def f81.H0_e0 (z3 : (List Move)) : H := [(1007, (.row 64 (.st 0) z3))]
def f81.p0_e0' {R : Type} (L N : Nat) (k : (List Move) → Option R) (z3 : (List Move)) : Option R :=
  k z3
def f81.p0_e0 {R : Type} (L N : Nat) (k : (List Move) → Option R) (z3 : (List Move)) : Option R :=
  f81.p0_e0' L N k z3
def f81.b' {R : Type} (L N : Nat) (k : (List Move) → Option R) (w0 : (List Move) → Int → (List Move) → Option R) (x0 : (List Move)) : Option R :=
  bif (decide (0 ≤ (x0.length : Int)) && decide ((x0.length : Int) ≤ (lim : Int))) then
    w0 x0 (0 : Int) (List.replicate (x0.length : Int).toNat (Ty.dflt (.st 0)))
  else none
def f81.b {R : Type} (L N : Nat) (k : (List Move) → Option R) (x0 : (List Move)) : Option R :=
  f81.b' L N k (fun s0 s1 s2 => f81.l0 L N (fun z3 => f81.p0_e0 L N k z3) L s0 s1 s2) x0
def f81 (L N : Nat) (x0 : (List Move)) : Option ((List Move)) := f81.b L N some x0
def f81.ent (L N : Nat) (args : List AV) (vw : View) (site : Nat) : Ans := match coeD [(.sl (.st 0))] vw args with
  | some (d, u) => ⟨(List Move), f81 L N d.1, fun y => ((.tv (.sl (.st 0)) y), u, [])⟩
  | none => Ans.no
noncomputable def E81 (L N : Nat) : Env := { P := Try.prog, ty := tyOf, Φ := (Φ97 L N), inl := fun _ => false, live := lives, liveX := livesX, L := L }
noncomputable def f81.c0 : Code := loopAt 0 (codeOf Try.f81)
theorem f81.s0_pre {R : Type} (L N : Nat) (κ : Ex → T → H → Option R) (rec : T → H → Option R) (s0 : (List Move)) (s1 : Int) (s2 : (List Move)) :
    evRd (E81 L N) (evCallI (E81 L N) 0 1000) 1000 81 23 0 f81.c0 κ rec (f81.T0 s0 s1 s2) (f81.H0 s0 s1 s2)
    = f81.s0' L N (fun z3 => κ (.exit 0) (f81.T0_e0 z3) (f81.H0_e0 z3)) (fun s0 s1 s2 => rec (f81.T0 s0 s1 s2) (f81.H0 s0 s1 s2)) s0 s1 s2 := by kernel_rfl
theorem f81.s0_eq {R : Type} (L N : Nat) (κ : Ex → T → H → Option R) (rec : T → H → Option R) (s0 : (List Move)) (s1 : Int) (s2 : (List Move)) :
    evRd (E81 L N) (evCallI (E81 L N) 0 1000) 1000 81 23 0 f81.c0 κ rec (f81.T0 s0 s1 s2) (f81.H0 s0 s1 s2)
    = f81.s0 L N (fun z3 => κ (.exit 0) (f81.T0_e0 z3) (f81.H0_e0 z3)) (fun s0 s1 s2 => rec (f81.T0 s0 s1 s2) (f81.H0 s0 s1 s2)) s0 s1 s2 := by
  rw [f81.s0_pre]
  unfold f81.s0
  rfl
theorem f81.l0_eq {R : Type} (L N : Nat) (κ : Ex → T → H → Option R) : ∀ (n : Nat) (s0 : (List Move)) (s1 : Int) (s2 : (List Move)),
    evLp (E81 L N) (evCallI (E81 L N) 0 1000) 1000 81 23 0 f81.c0 κ n (f81.T0 s0 s1 s2) (f81.H0 s0 s1 s2)
    = f81.l0 L N (fun z3 => κ (.exit 0) (f81.T0_e0 z3) (f81.H0_e0 z3)) n s0 s1 s2 := by
  intro n
  induction n with
  | zero => intros; rfl
  | succ n ih =>
    intro s0 s1 s2
    rw [evLp_succ, f81.s0_eq]
    simp only [ih]
    rfl
theorem f81.p0_e0_pre {R : Type} (L N : Nat) (κ : AV → Option R) (z3 : (List Move)) :
    (contAt (E81 L N) (evCallI (E81 L N) 0 1000) 1000 81 23 0 (codeOf Try.f81) (finK (E81 L N) 1000 Try.f81 (finC (.one (.sl (.st 0))) κ))) (.exit 0) (f81.T0_e0 z3) (f81.H0_e0 z3)
    = f81.p0_e0' L N (fun a0 => κ (.tv (.sl (.st 0)) a0)) z3 := by kernel_rfl
theorem f81.p0_e0_eq {R : Type} (L N : Nat) (κ : AV → Option R) (z3 : (List Move)) :
    (contAt (E81 L N) (evCallI (E81 L N) 0 1000) 1000 81 23 0 (codeOf Try.f81) (finK (E81 L N) 1000 Try.f81 (finC (.one (.sl (.st 0))) κ))) (.exit 0) (f81.T0_e0 z3) (f81.H0_e0 z3)
    = f81.p0_e0 L N (fun a0 => κ (.tv (.sl (.st 0)) a0)) z3 := by
  rw [f81.p0_e0_pre]
  unfold f81.p0_e0
  rfl
theorem f81.b_pre {R : Type} (L N : Nat) (κ : AV → Option R) (x0 : (List Move)) :
    evBody (E81 L N) (evCallI (E81 L N) 0 1000) 1000 81 Try.f81 [(.tv (.sl (.st 0)) x0)] [] [] (finC (.one (.sl (.st 0))) κ)
    = f81.b' L N (fun a0 => κ (.tv (.sl (.st 0)) a0)) (fun s0 s1 s2 => evLp (E81 L N) (evCallI (E81 L N) 0 1000) 1000 81 23 0 f81.c0 (contAt (E81 L N) (evCallI (E81 L N) 0 1000) 1000 81 23 0 (codeOf Try.f81) (finK (E81 L N) 1000 Try.f81 (finC (.one (.sl (.st 0))) κ))) L (f81.T0 s0 s1 s2) (f81.H0 s0 s1 s2)) x0 := by kernel_rfl
theorem f81.b_eq {R : Type} (L N : Nat) (κ : AV → Option R) (x0 : (List Move)) :
    evBody (E81 L N) (evCallI (E81 L N) 0 1000) 1000 81 Try.f81 [(.tv (.sl (.st 0)) x0)] [] [] (finC (.one (.sl (.st 0))) κ)
    = f81.b L N (fun a0 => κ (.tv (.sl (.st 0)) a0)) x0 := by
  rw [f81.b_pre]
  unfold f81.b
  simp only [f81.l0_eq, f81.p0_e0_eq]
theorem f81.s0'_nat {R R' : Type} (j : R → Option R') (L N : Nat) (k0_e0 : (List Move) → Option R) (rec0 : (List Move) → Int → (List Move) → Option R) (s0 : (List Move)) (s1 : Int) (s2 : (List Move)) :
    f81.s0' L N (fun a0 => (k0_e0 a0).bind j) (fun a0 a1 a2 => (rec0 a0 a1 a2).bind j) s0 s1 s2 = (f81.s0' L N k0_e0 rec0 s0 s1 s2).bind j := by
  unfold f81.s0'
  repeat' (first | (with_reducible refine cond_nat ?_ ?_) | (with_reducible refine bind_nat fun _ => ?_) | rfl)
theorem f81.s0_nat {R R' : Type} (j : R → Option R') (L N : Nat) (k0_e0 : (List Move) → Option R) (rec0 : (List Move) → Int → (List Move) → Option R) (s0 : (List Move)) (s1 : Int) (s2 : (List Move)) :
    f81.s0 L N (fun a0 => (k0_e0 a0).bind j) (fun a0 a1 a2 => (rec0 a0 a1 a2).bind j) s0 s1 s2 = (f81.s0 L N k0_e0 rec0 s0 s1 s2).bind j := by
  unfold f81.s0
  exact f81.s0'_nat ..
theorem f81.l0_nat {R R' : Type} (j : R → Option R') (L N : Nat) (k0_e0 : (List Move) → Option R) : ∀ (n : Nat) (s0 : (List Move)) (s1 : Int) (s2 : (List Move)),
    f81.l0 L N (fun a0 => (k0_e0 a0).bind j) n s0 s1 s2 = (f81.l0 L N k0_e0 n s0 s1 s2).bind j := by
  intro n
  induction n with
  | zero => intros; rfl
  | succ n ih =>
    intro s0 s1 s2
    show f81.s0 L N (fun a0 => (k0_e0 a0).bind j) (f81.l0 L N (fun a0 => (k0_e0 a0).bind j) n) s0 s1 s2 = _
    rw [show f81.l0 L N (fun a0 => (k0_e0 a0).bind j) n = (fun s0 s1 s2 => (f81.l0 L N k0_e0 n s0 s1 s2).bind j) from funext fun s0 => funext fun s1 => funext fun s2 => ih s0 s1 s2]
    exact f81.s0_nat ..
theorem f81.p0_e0'_nat {R R' : Type} (j : R → Option R') (L N : Nat) (k : (List Move) → Option R) (z3 : (List Move)) :
    f81.p0_e0' L N (fun a0 => (k a0).bind j) z3 = (f81.p0_e0' L N k z3).bind j := by
  unfold f81.p0_e0'
  repeat' (first | (with_reducible refine cond_nat ?_ ?_) | (with_reducible refine bind_nat fun _ => ?_) | rfl)
theorem f81.p0_e0_nat {R R' : Type} (j : R → Option R') (L N : Nat) (k : (List Move) → Option R) (z3 : (List Move)) :
    f81.p0_e0 L N (fun a0 => (k a0).bind j) z3 = (f81.p0_e0 L N k z3).bind j := by
  unfold f81.p0_e0
  exact f81.p0_e0'_nat ..
theorem f81.b'_nat {R R' : Type} (j : R → Option R') (L N : Nat) (k : (List Move) → Option R) (w0 : (List Move) → Int → (List Move) → Option R) (x0 : (List Move)) :
    f81.b' L N (fun a0 => (k a0).bind j) (fun a0 a1 a2 => (w0 a0 a1 a2).bind j) x0 = (f81.b' L N k w0 x0).bind j := by
  unfold f81.b'
  repeat' (first | (with_reducible refine cond_nat ?_ ?_) | (with_reducible refine bind_nat fun _ => ?_) | rfl)
theorem f81.b_nat {R R' : Type} (j : R → Option R') (L N : Nat) (k : (List Move) → Option R) (x0 : (List Move)) :
    f81.b L N (fun a0 => (k a0).bind j) x0 = (f81.b L N k x0).bind j := by
  unfold f81.b
  simp only [f81.l0_nat, f81.p0_e0_nat]
  exact f81.b'_nat ..
theorem f81.ok (L N : Nat) (hΦ : TellsOk Try.prog ((Φ97 L N))) : EntOk Try.prog 81 (f81.ent L N) := by
  intro args vw site h
  unfold f81.ent
  split
  · rename_i d u ha
    intro y hy hs
    refine call_data (dep := 1000) (E := (E81 L N)) (rs := (.one (.sl (.st 0)))) (v' := (.tv (.sl (.st 0)) y)) (sound_of hΦ) okP (callI_sound (sound_of hΦ) okP 0 1000) (f := Try.f81) rfl hs ha ?_ site
    refine (f81.b_eq L N some d.1).trans ?_
    refine ((f81.b_nat (fun y => (some (.tv (.sl (.st 0)) y) : Option AV)) L N some d.1)).trans ?_
    rw [show f81.b L N some d.1 = some y from hy]
    rfl
  · intro y hy
    cases hy
def Φ81 (L N : Nat) : Tells := (addT (Φ97 L N) 81 (f81.ent L N))
theorem Φ81_ok (L N : Nat) : TellsOk Try.prog (Φ81 L N) := addT_ok (Φ97_ok L N) (f81.ok L N (Φ97_ok L N))
def f64.s0' {R : Type} (L N : Nat) (k0_e0 : (List (List Move)) → Option R) (rec0 : (List (List Move)) → Int → (List (List Move)) → Option R) (s0 : (List (List Move))) (s1 : Int) (s2 : (List (List Move))) : Option R :=
  bif (decide (s1 < (s0.length : Int))) then
    bif (decide (0 ≤ s1) && decide (s1 < (s0.length : Int))) then
      (f81 L N (listAt s0 [] s1.toNat)).bind fun y4 =>
      bif (decide (0 ≤ s1) && decide (s1 < (s2.length : Int))) then
        rec0 s0 (wi (s1 + (1 : Int))) (s2.set s1.toNat y4)
      else none
    else none
  else k0_e0 s2
def f64.s0 {R : Type} (L N : Nat) (k0_e0 : (List (List Move)) → Option R) (rec0 : (List (List Move)) → Int → (List (List Move)) → Option R) (s0 : (List (List Move))) (s1 : Int) (s2 : (List (List Move))) : Option R :=
  f64.s0' L N k0_e0 rec0 s0 s1 s2
def f64.l0 {R : Type} (L N : Nat) (k0_e0 : (List (List Move)) → Option R) : Nat → (List (List Move)) → Int → (List (List Move)) → Option R
  | 0, _, _, _ => none
  | n + 1, s0, s1, s2 => f64.s0 L N k0_e0 (f64.l0 L N k0_e0 n) s0 s1 s2
def f64.T0 (s0 : (List (List Move))) (s1 : Int) (s2 : (List (List Move))) : T := mkT 23 [(0, (.tv (.sl (.sl (.st 0))) s0)), (3, (.row 1007)), (4, (.tv i64 s1))]
def f64.H0 (s0 : (List (List Move))) (s1 : Int) (s2 : (List (List Move))) : H := [(1007, (.row 62 (.sl (.st 0)) s2))]
def f64.T0_e0 (z3 : (List (List Move))) : T := mkT 23 [(3, (.row 1007))]
def f64.H0_e0 (z3 : (List (List Move))) : H := [(1007, (.row 62 (.sl (.st 0)) z3))]
def f64.p0_e0' {R : Type} (L N : Nat) (k : (List (List Move)) → Option R) (z3 : (List (List Move))) : Option R :=
  k z3
def f64.p0_e0 {R : Type} (L N : Nat) (k : (List (List Move)) → Option R) (z3 : (List (List Move))) : Option R :=
  f64.p0_e0' L N k z3
def f64.b' {R : Type} (L N : Nat) (k : (List (List Move)) → Option R) (w0 : (List (List Move)) → Int → (List (List Move)) → Option R) (x0 : (List (List Move))) : Option R :=
  bif (decide (0 ≤ (x0.length : Int)) && decide ((x0.length : Int) ≤ (lim : Int))) then
    w0 x0 (0 : Int) (List.replicate (x0.length : Int).toNat [])
  else none
def f64.b {R : Type} (L N : Nat) (k : (List (List Move)) → Option R) (x0 : (List (List Move))) : Option R :=
  f64.b' L N k (fun s0 s1 s2 => f64.l0 L N (fun z3 => f64.p0_e0 L N k z3) L s0 s1 s2) x0
def f64 (L N : Nat) (x0 : (List (List Move))) : Option ((List (List Move))) := f64.b L N some x0
def f64.ent (L N : Nat) (args : List AV) (vw : View) (site : Nat) : Ans := match coeD [(.sl (.sl (.st 0)))] vw args with
  | some (d, u) => ⟨(List (List Move)), f64 L N d.1, fun y => ((.tv (.sl (.sl (.st 0))) y), u, [])⟩
  | none => Ans.no
noncomputable def E64 (L N : Nat) : Env := { P := Try.prog, ty := tyOf, Φ := (Φ81 L N), inl := fun _ => false, live := lives, liveX := livesX, L := L }
noncomputable def f64.c0 : Code := loopAt 0 (codeOf Try.f64)
theorem f64.s0_pre {R : Type} (L N : Nat) (κ : Ex → T → H → Option R) (rec : T → H → Option R) (s0 : (List (List Move))) (s1 : Int) (s2 : (List (List Move))) :
    evRd (E64 L N) (evCallI (E64 L N) 0 1000) 1000 64 23 0 f64.c0 κ rec (f64.T0 s0 s1 s2) (f64.H0 s0 s1 s2)
    = f64.s0' L N (fun z3 => κ (.exit 0) (f64.T0_e0 z3) (f64.H0_e0 z3)) (fun s0 s1 s2 => rec (f64.T0 s0 s1 s2) (f64.H0 s0 s1 s2)) s0 s1 s2 := by kernel_rfl
theorem f64.s0_eq {R : Type} (L N : Nat) (κ : Ex → T → H → Option R) (rec : T → H → Option R) (s0 : (List (List Move))) (s1 : Int) (s2 : (List (List Move))) :
    evRd (E64 L N) (evCallI (E64 L N) 0 1000) 1000 64 23 0 f64.c0 κ rec (f64.T0 s0 s1 s2) (f64.H0 s0 s1 s2)
    = f64.s0 L N (fun z3 => κ (.exit 0) (f64.T0_e0 z3) (f64.H0_e0 z3)) (fun s0 s1 s2 => rec (f64.T0 s0 s1 s2) (f64.H0 s0 s1 s2)) s0 s1 s2 := by
  rw [f64.s0_pre]
  unfold f64.s0
  rfl
theorem f64.l0_eq {R : Type} (L N : Nat) (κ : Ex → T → H → Option R) : ∀ (n : Nat) (s0 : (List (List Move))) (s1 : Int) (s2 : (List (List Move))),
    evLp (E64 L N) (evCallI (E64 L N) 0 1000) 1000 64 23 0 f64.c0 κ n (f64.T0 s0 s1 s2) (f64.H0 s0 s1 s2)
    = f64.l0 L N (fun z3 => κ (.exit 0) (f64.T0_e0 z3) (f64.H0_e0 z3)) n s0 s1 s2 := by
  intro n
  induction n with
  | zero => intros; rfl
  | succ n ih =>
    intro s0 s1 s2
    rw [evLp_succ, f64.s0_eq]
    simp only [ih]
    rfl
theorem f64.p0_e0_pre {R : Type} (L N : Nat) (κ : AV → Option R) (z3 : (List (List Move))) :
    (contAt (E64 L N) (evCallI (E64 L N) 0 1000) 1000 64 23 0 (codeOf Try.f64) (finK (E64 L N) 1000 Try.f64 (finC (.one (.sl (.sl (.st 0)))) κ))) (.exit 0) (f64.T0_e0 z3) (f64.H0_e0 z3)
    = f64.p0_e0' L N (fun a0 => κ (.tv (.sl (.sl (.st 0))) a0)) z3 := by kernel_rfl
theorem f64.p0_e0_eq {R : Type} (L N : Nat) (κ : AV → Option R) (z3 : (List (List Move))) :
    (contAt (E64 L N) (evCallI (E64 L N) 0 1000) 1000 64 23 0 (codeOf Try.f64) (finK (E64 L N) 1000 Try.f64 (finC (.one (.sl (.sl (.st 0)))) κ))) (.exit 0) (f64.T0_e0 z3) (f64.H0_e0 z3)
    = f64.p0_e0 L N (fun a0 => κ (.tv (.sl (.sl (.st 0))) a0)) z3 := by
  rw [f64.p0_e0_pre]
  unfold f64.p0_e0
  rfl
theorem f64.b_pre {R : Type} (L N : Nat) (κ : AV → Option R) (x0 : (List (List Move))) :
    evBody (E64 L N) (evCallI (E64 L N) 0 1000) 1000 64 Try.f64 [(.tv (.sl (.sl (.st 0))) x0)] [] [] (finC (.one (.sl (.sl (.st 0)))) κ)
    = f64.b' L N (fun a0 => κ (.tv (.sl (.sl (.st 0))) a0)) (fun s0 s1 s2 => evLp (E64 L N) (evCallI (E64 L N) 0 1000) 1000 64 23 0 f64.c0 (contAt (E64 L N) (evCallI (E64 L N) 0 1000) 1000 64 23 0 (codeOf Try.f64) (finK (E64 L N) 1000 Try.f64 (finC (.one (.sl (.sl (.st 0)))) κ))) L (f64.T0 s0 s1 s2) (f64.H0 s0 s1 s2)) x0 := by kernel_rfl
theorem f64.b_eq {R : Type} (L N : Nat) (κ : AV → Option R) (x0 : (List (List Move))) :
    evBody (E64 L N) (evCallI (E64 L N) 0 1000) 1000 64 Try.f64 [(.tv (.sl (.sl (.st 0))) x0)] [] [] (finC (.one (.sl (.sl (.st 0)))) κ)
    = f64.b L N (fun a0 => κ (.tv (.sl (.sl (.st 0))) a0)) x0 := by
  rw [f64.b_pre]
  unfold f64.b
  simp only [f64.l0_eq, f64.p0_e0_eq]
theorem f64.s0'_nat {R R' : Type} (j : R → Option R') (L N : Nat) (k0_e0 : (List (List Move)) → Option R) (rec0 : (List (List Move)) → Int → (List (List Move)) → Option R) (s0 : (List (List Move))) (s1 : Int) (s2 : (List (List Move))) :
    f64.s0' L N (fun a0 => (k0_e0 a0).bind j) (fun a0 a1 a2 => (rec0 a0 a1 a2).bind j) s0 s1 s2 = (f64.s0' L N k0_e0 rec0 s0 s1 s2).bind j := by
  unfold f64.s0'
  repeat' (first | (with_reducible refine cond_nat ?_ ?_) | (with_reducible refine bind_nat fun _ => ?_) | rfl)
theorem f64.s0_nat {R R' : Type} (j : R → Option R') (L N : Nat) (k0_e0 : (List (List Move)) → Option R) (rec0 : (List (List Move)) → Int → (List (List Move)) → Option R) (s0 : (List (List Move))) (s1 : Int) (s2 : (List (List Move))) :
    f64.s0 L N (fun a0 => (k0_e0 a0).bind j) (fun a0 a1 a2 => (rec0 a0 a1 a2).bind j) s0 s1 s2 = (f64.s0 L N k0_e0 rec0 s0 s1 s2).bind j := by
  unfold f64.s0
  exact f64.s0'_nat ..
theorem f64.l0_nat {R R' : Type} (j : R → Option R') (L N : Nat) (k0_e0 : (List (List Move)) → Option R) : ∀ (n : Nat) (s0 : (List (List Move))) (s1 : Int) (s2 : (List (List Move))),
    f64.l0 L N (fun a0 => (k0_e0 a0).bind j) n s0 s1 s2 = (f64.l0 L N k0_e0 n s0 s1 s2).bind j := by
  intro n
  induction n with
  | zero => intros; rfl
  | succ n ih =>
    intro s0 s1 s2
    show f64.s0 L N (fun a0 => (k0_e0 a0).bind j) (f64.l0 L N (fun a0 => (k0_e0 a0).bind j) n) s0 s1 s2 = _
    rw [show f64.l0 L N (fun a0 => (k0_e0 a0).bind j) n = (fun s0 s1 s2 => (f64.l0 L N k0_e0 n s0 s1 s2).bind j) from funext fun s0 => funext fun s1 => funext fun s2 => ih s0 s1 s2]
    exact f64.s0_nat ..
theorem f64.p0_e0'_nat {R R' : Type} (j : R → Option R') (L N : Nat) (k : (List (List Move)) → Option R) (z3 : (List (List Move))) :
    f64.p0_e0' L N (fun a0 => (k a0).bind j) z3 = (f64.p0_e0' L N k z3).bind j := by
  unfold f64.p0_e0'
  repeat' (first | (with_reducible refine cond_nat ?_ ?_) | (with_reducible refine bind_nat fun _ => ?_) | rfl)
theorem f64.p0_e0_nat {R R' : Type} (j : R → Option R') (L N : Nat) (k : (List (List Move)) → Option R) (z3 : (List (List Move))) :
    f64.p0_e0 L N (fun a0 => (k a0).bind j) z3 = (f64.p0_e0 L N k z3).bind j := by
  unfold f64.p0_e0
  exact f64.p0_e0'_nat ..
theorem f64.b'_nat {R R' : Type} (j : R → Option R') (L N : Nat) (k : (List (List Move)) → Option R) (w0 : (List (List Move)) → Int → (List (List Move)) → Option R) (x0 : (List (List Move))) :
    f64.b' L N (fun a0 => (k a0).bind j) (fun a0 a1 a2 => (w0 a0 a1 a2).bind j) x0 = (f64.b' L N k w0 x0).bind j := by
  unfold f64.b'
  repeat' (first | (with_reducible refine cond_nat ?_ ?_) | (with_reducible refine bind_nat fun _ => ?_) | rfl)
theorem f64.b_nat {R R' : Type} (j : R → Option R') (L N : Nat) (k : (List (List Move)) → Option R) (x0 : (List (List Move))) :
    f64.b L N (fun a0 => (k a0).bind j) x0 = (f64.b L N k x0).bind j := by
  unfold f64.b
  simp only [f64.l0_nat, f64.p0_e0_nat]
  exact f64.b'_nat ..
theorem f64.ok (L N : Nat) (hΦ : TellsOk Try.prog ((Φ81 L N))) : EntOk Try.prog 64 (f64.ent L N) := by
  intro args vw site h
  unfold f64.ent
  split
  · rename_i d u ha
    intro y hy hs
    refine call_data (dep := 1000) (E := (E64 L N)) (rs := (.one (.sl (.sl (.st 0))))) (v' := (.tv (.sl (.sl (.st 0))) y)) (sound_of hΦ) okP (callI_sound (sound_of hΦ) okP 0 1000) (f := Try.f64) rfl hs ha ?_ site
    refine (f64.b_eq L N some d.1).trans ?_
    refine ((f64.b_nat (fun y => (some (.tv (.sl (.sl (.st 0))) y) : Option AV)) L N some d.1)).trans ?_
    rw [show f64.b L N some d.1 = some y from hy]
    rfl
  · intro y hy
    cases hy
def Φ64 (L N : Nat) : Tells := (addT (Φ81 L N) 64 (f64.ent L N))
theorem Φ64_ok (L N : Nat) : TellsOk Try.prog (Φ64 L N) := addT_ok (Φ81_ok L N) (f64.ok L N (Φ81_ok L N))
def f38.b' {R : Type} (L N : Nat) (k : Graph → Option R) (x0 : Graph) : Option R :=
  (f64 L N x0.moves).bind fun y0 =>
  k (Graph.mk ((Graph.mk y0).moves))
def f38.b {R : Type} (L N : Nat) (k : Graph → Option R) (x0 : Graph) : Option R :=
  f38.b' L N k x0
def f38 (L N : Nat) (x0 : Graph) : Option (Graph) := f38.b L N some x0
def f38.ent (L N : Nat) (args : List AV) (vw : View) (site : Nat) : Ans := match coeD [(.st 2)] vw args with
  | some (d, u) => ⟨Graph, f38 L N d.1, fun y => ((.tv (.st 2) y), u, [])⟩
  | none => Ans.no
noncomputable def E38 (L N : Nat) : Env := { P := Try.prog, ty := tyOf, Φ := (Φ64 L N), inl := fun _ => false, live := lives, liveX := livesX, L := L }
theorem f38.b_pre {R : Type} (L N : Nat) (κ : AV → Option R) (x0 : Graph) :
    evBody (E38 L N) (evCallI (E38 L N) 0 1000) 1000 38 Try.f38 [(.tv (.st 2) x0)] [] [] (finC (.one (.st 2)) κ)
    = f38.b' L N (fun a0 => κ (.tv (.st 2) a0)) x0 := by kernel_rfl
theorem f38.b_eq {R : Type} (L N : Nat) (κ : AV → Option R) (x0 : Graph) :
    evBody (E38 L N) (evCallI (E38 L N) 0 1000) 1000 38 Try.f38 [(.tv (.st 2) x0)] [] [] (finC (.one (.st 2)) κ)
    = f38.b L N (fun a0 => κ (.tv (.st 2) a0)) x0 := by
  rw [f38.b_pre]
  unfold f38.b
  rfl
theorem f38.b'_nat {R R' : Type} (j : R → Option R') (L N : Nat) (k : Graph → Option R) (x0 : Graph) :
    f38.b' L N (fun a0 => (k a0).bind j) x0 = (f38.b' L N k x0).bind j := by
  unfold f38.b'
  repeat' (first | (with_reducible refine cond_nat ?_ ?_) | (with_reducible refine bind_nat fun _ => ?_) | rfl)
theorem f38.b_nat {R R' : Type} (j : R → Option R') (L N : Nat) (k : Graph → Option R) (x0 : Graph) :
    f38.b L N (fun a0 => (k a0).bind j) x0 = (f38.b L N k x0).bind j := by
  unfold f38.b
  exact f38.b'_nat ..
theorem f38.ok (L N : Nat) (hΦ : TellsOk Try.prog ((Φ64 L N))) : EntOk Try.prog 38 (f38.ent L N) := by
  intro args vw site h
  unfold f38.ent
  split
  · rename_i d u ha
    intro y hy hs
    refine call_data (dep := 1000) (E := (E38 L N)) (rs := (.one (.st 2))) (v' := (.tv (.st 2) y)) (sound_of hΦ) okP (callI_sound (sound_of hΦ) okP 0 1000) (f := Try.f38) rfl hs ha ?_ site
    refine (f38.b_eq L N some d.1).trans ?_
    refine ((f38.b_nat (fun y => (some (.tv (.st 2) y) : Option AV)) L N some d.1)).trans ?_
    rw [show f38.b L N some d.1 = some y from hy]
    rfl
  · intro y hy
    cases hy
def Φ38 (L N : Nat) : Tells := (addT (Φ64 L N) 38 (f38.ent L N))
theorem Φ38_ok (L N : Nat) : TellsOk Try.prog (Φ38 L N) := addT_ok (Φ64_ok L N) (f38.ok L N (Φ64_ok L N))
def f17.b' {R : Type} (L N : Nat) (k : Bool → Option R) (x0 : (List Bool)) : Option R :=
  k ((x0.length : Int) == (8 : Int))
def f17.b {R : Type} (L N : Nat) (k : Bool → Option R) (x0 : (List Bool)) : Option R :=
  f17.b' L N k x0
def f17 (L N : Nat) (x0 : (List Bool)) : Option (Bool) := f17.b L N some x0
def f17.ent (L N : Nat) (args : List AV) (vw : View) (site : Nat) : Ans := match roD [(.sl .bool)] vw args with
  | some d => ⟨Bool, f17 L N d.1, fun y => ((.tv .bool y), [], [])⟩
  | none => Ans.no
noncomputable def E17 (L N : Nat) : Env := { P := Try.prog, ty := tyOf, Φ := (Φ38 L N), inl := fun _ => false, live := lives, liveX := livesX, L := L }
theorem f17.b_pre {R : Type} (L N : Nat) (κ : AV → Option R) (x0 : (List Bool)) :
    evBody (E17 L N) (evCallI (E17 L N) 0 1000) 1000 17 Try.f17 [(.tv (.sl .bool) x0)] [] [] (finC (.one .bool) κ)
    = f17.b' L N (fun a0 => κ (.tv .bool a0)) x0 := by kernel_rfl
theorem f17.b_eq {R : Type} (L N : Nat) (κ : AV → Option R) (x0 : (List Bool)) :
    evBody (E17 L N) (evCallI (E17 L N) 0 1000) 1000 17 Try.f17 [(.tv (.sl .bool) x0)] [] [] (finC (.one .bool) κ)
    = f17.b L N (fun a0 => κ (.tv .bool a0)) x0 := by
  rw [f17.b_pre]
  unfold f17.b
  rfl
theorem f17.b'_nat {R R' : Type} (j : R → Option R') (L N : Nat) (k : Bool → Option R) (x0 : (List Bool)) :
    f17.b' L N (fun a0 => (k a0).bind j) x0 = (f17.b' L N k x0).bind j := by
  unfold f17.b'
  repeat' (first | (with_reducible refine cond_nat ?_ ?_) | (with_reducible refine bind_nat fun _ => ?_) | rfl)
theorem f17.b_nat {R R' : Type} (j : R → Option R') (L N : Nat) (k : Bool → Option R) (x0 : (List Bool)) :
    f17.b L N (fun a0 => (k a0).bind j) x0 = (f17.b L N k x0).bind j := by
  unfold f17.b
  exact f17.b'_nat ..
theorem f17.ok (L N : Nat) (hΦ : TellsOk Try.prog ((Φ38 L N))) : EntOk Try.prog 17 (f17.ent L N) := by
  intro args vw site h
  unfold f17.ent
  split
  · rename_i d ha
    intro y hy hs
    refine call_ro (dep := 1000) (E := (E17 L N)) (rs := (.one .bool)) (v := (.tv .bool y)) (sound_of hΦ) okP (callI_sound (sound_of hΦ) okP 0 1000) (f := Try.f17) rfl hs ha ?_ rfl site
    refine (f17.b_eq L N some d.1).trans ?_
    refine ((f17.b_nat (fun y => (some (.tv .bool y) : Option AV)) L N some d.1)).trans ?_
    rw [show f17.b L N some d.1 = some y from hy]
    rfl
  · intro y hy
    cases hy
def Φ17 (L N : Nat) : Tells := (addT (Φ38 L N) 17 (f17.ent L N))
theorem Φ17_ok (L N : Nat) : TellsOk Try.prog (Φ17 L N) := addT_ok (Φ38_ok L N) (f17.ok L N (Φ38_ok L N))
def f107.b' {R : Type} (L N : Nat) (k : Bool → Option R) (x0 : Int) : Option R :=
  k (x0 != x0)
def f107.b {R : Type} (L N : Nat) (k : Bool → Option R) (x0 : Int) : Option R :=
  f107.b' L N k x0
def f107 (L N : Nat) (x0 : Int) : Option (Bool) := f107.b L N some x0
def f107.ent (L N : Nat) (args : List AV) (vw : View) (site : Nat) : Ans := match roD [i64] vw args with
  | some d => ⟨Bool, f107 L N d.1, fun y => ((.tv .bool y), [], [])⟩
  | none => Ans.no
noncomputable def E107 (L N : Nat) : Env := { P := Try.prog, ty := tyOf, Φ := (Φ17 L N), inl := fun _ => false, live := lives, liveX := livesX, L := L }
theorem f107.b_pre {R : Type} (L N : Nat) (κ : AV → Option R) (x0 : Int) :
    evBody (E107 L N) (evCallI (E107 L N) 0 1000) 1000 107 Try.f107 [(.tv i64 x0)] [] [] (finC (.one .bool) κ)
    = f107.b' L N (fun a0 => κ (.tv .bool a0)) x0 := by kernel_rfl
theorem f107.b_eq {R : Type} (L N : Nat) (κ : AV → Option R) (x0 : Int) :
    evBody (E107 L N) (evCallI (E107 L N) 0 1000) 1000 107 Try.f107 [(.tv i64 x0)] [] [] (finC (.one .bool) κ)
    = f107.b L N (fun a0 => κ (.tv .bool a0)) x0 := by
  rw [f107.b_pre]
  unfold f107.b
  rfl
theorem f107.b'_nat {R R' : Type} (j : R → Option R') (L N : Nat) (k : Bool → Option R) (x0 : Int) :
    f107.b' L N (fun a0 => (k a0).bind j) x0 = (f107.b' L N k x0).bind j := by
  unfold f107.b'
  repeat' (first | (with_reducible refine cond_nat ?_ ?_) | (with_reducible refine bind_nat fun _ => ?_) | rfl)
theorem f107.b_nat {R R' : Type} (j : R → Option R') (L N : Nat) (k : Bool → Option R) (x0 : Int) :
    f107.b L N (fun a0 => (k a0).bind j) x0 = (f107.b L N k x0).bind j := by
  unfold f107.b
  exact f107.b'_nat ..
theorem f107.ok (L N : Nat) (hΦ : TellsOk Try.prog ((Φ17 L N))) : EntOk Try.prog 107 (f107.ent L N) := by
  intro args vw site h
  unfold f107.ent
  split
  · rename_i d ha
    intro y hy hs
    refine call_ro (dep := 1000) (E := (E107 L N)) (rs := (.one .bool)) (v := (.tv .bool y)) (sound_of hΦ) okP (callI_sound (sound_of hΦ) okP 0 1000) (f := Try.f107) rfl hs ha ?_ rfl site
    refine (f107.b_eq L N some d.1).trans ?_
    refine ((f107.b_nat (fun y => (some (.tv .bool y) : Option AV)) L N some d.1)).trans ?_
    rw [show f107.b L N some d.1 = some y from hy]
    rfl
  · intro y hy
    cases hy
def Φ107 (L N : Nat) : Tells := (addT (Φ17 L N) 107 (f107.ent L N))
theorem Φ107_ok (L N : Nat) : TellsOk Try.prog (Φ107 L N) := addT_ok (Φ17_ok L N) (f107.ok L N (Φ17_ok L N))
def f98.b' {R : Type} (L N : Nat) (k : Int → Option R) (x0 : Int) (x1 : Int) : Option R :=
  (f107 L N x0).bind fun y0 =>
  (f107 L N x1).bind fun y1 =>
  bif y0 then
    bif y1 then
      k (0 : Int)
    else k (-1 : Int)
  else bif y1 then
    k (1 : Int)
  else bif (decide (x0 < x1)) then
    k (-1 : Int)
  else bif (decide (x0 > x1)) then
    k (1 : Int)
  else k (0 : Int)
def f98.b {R : Type} (L N : Nat) (k : Int → Option R) (x0 : Int) (x1 : Int) : Option R :=
  f98.b' L N k x0 x1
def f98 (L N : Nat) (x0 : Int) (x1 : Int) : Option (Int) := f98.b L N some x0 x1
def f98.ent (L N : Nat) (args : List AV) (vw : View) (site : Nat) : Ans := match roD [i64, i64] vw args with
  | some d => ⟨Int, f98 L N d.1 d.2.1, fun y => ((.tv i64 y), [], [])⟩
  | none => Ans.no
noncomputable def E98 (L N : Nat) : Env := { P := Try.prog, ty := tyOf, Φ := (Φ107 L N), inl := fun _ => false, live := lives, liveX := livesX, L := L }
theorem f98.b_pre {R : Type} (L N : Nat) (κ : AV → Option R) (x0 : Int) (x1 : Int) :
    evBody (E98 L N) (evCallI (E98 L N) 0 1000) 1000 98 Try.f98 [(.tv i64 x0), (.tv i64 x1)] [] [] (finC (.one i64) κ)
    = f98.b' L N (fun a0 => κ (.tv i64 a0)) x0 x1 := by kernel_rfl
theorem f98.b_eq {R : Type} (L N : Nat) (κ : AV → Option R) (x0 : Int) (x1 : Int) :
    evBody (E98 L N) (evCallI (E98 L N) 0 1000) 1000 98 Try.f98 [(.tv i64 x0), (.tv i64 x1)] [] [] (finC (.one i64) κ)
    = f98.b L N (fun a0 => κ (.tv i64 a0)) x0 x1 := by
  rw [f98.b_pre]
  unfold f98.b
  rfl
theorem f98.b'_nat {R R' : Type} (j : R → Option R') (L N : Nat) (k : Int → Option R) (x0 : Int) (x1 : Int) :
    f98.b' L N (fun a0 => (k a0).bind j) x0 x1 = (f98.b' L N k x0 x1).bind j := by
  unfold f98.b'
  repeat' (first | (with_reducible refine cond_nat ?_ ?_) | (with_reducible refine bind_nat fun _ => ?_) | rfl)
theorem f98.b_nat {R R' : Type} (j : R → Option R') (L N : Nat) (k : Int → Option R) (x0 : Int) (x1 : Int) :
    f98.b L N (fun a0 => (k a0).bind j) x0 x1 = (f98.b L N k x0 x1).bind j := by
  unfold f98.b
  exact f98.b'_nat ..
theorem f98.ok (L N : Nat) (hΦ : TellsOk Try.prog ((Φ107 L N))) : EntOk Try.prog 98 (f98.ent L N) := by
  intro args vw site h
  unfold f98.ent
  split
  · rename_i d ha
    intro y hy hs
    refine call_ro (dep := 1000) (E := (E98 L N)) (rs := (.one i64)) (v := (.tv i64 y)) (sound_of hΦ) okP (callI_sound (sound_of hΦ) okP 0 1000) (f := Try.f98) rfl hs ha ?_ rfl site
    refine (f98.b_eq L N some d.1 d.2.1).trans ?_
    refine ((f98.b_nat (fun y => (some (.tv i64 y) : Option AV)) L N some d.1 d.2.1)).trans ?_
    rw [show f98.b L N some d.1 d.2.1 = some y from hy]
    rfl
  · intro y hy
    cases hy
def Φ98 (L N : Nat) : Tells := (addT (Φ107 L N) 98 (f98.ent L N))
theorem Φ98_ok (L N : Nat) : TellsOk Try.prog (Φ98 L N) := addT_ok (Φ107_ok L N) (f98.ok L N (Φ107_ok L N))
def f82.b' {R : Type} (L N : Nat) (k : Int → Option R) (x0 : Move) (x1 : Move) : Option R :=
  (f98 L N x0.act x1.act).bind fun y0 =>
  bif (y0 != (0 : Int)) then
    k y0
  else (f98 L N x0.to x1.to).bind fun y1 =>
  k y1
def f82.b {R : Type} (L N : Nat) (k : Int → Option R) (x0 : Move) (x1 : Move) : Option R :=
  f82.b' L N k x0 x1
def f82 (L N : Nat) (x0 : Move) (x1 : Move) : Option (Int) := f82.b L N some x0 x1
def f82.ent (L N : Nat) (args : List AV) (vw : View) (site : Nat) : Ans := match roD [(.st 0), (.st 0)] vw args with
  | some d => ⟨Int, f82 L N d.1 d.2.1, fun y => ((.tv i64 y), [], [])⟩
  | none => Ans.no
noncomputable def E82 (L N : Nat) : Env := { P := Try.prog, ty := tyOf, Φ := (Φ98 L N), inl := fun _ => false, live := lives, liveX := livesX, L := L }
theorem f82.b_pre {R : Type} (L N : Nat) (κ : AV → Option R) (x0 : Move) (x1 : Move) :
    evBody (E82 L N) (evCallI (E82 L N) 0 1000) 1000 82 Try.f82 [(.tv (.st 0) x0), (.tv (.st 0) x1)] [] [] (finC (.one i64) κ)
    = f82.b' L N (fun a0 => κ (.tv i64 a0)) x0 x1 := by kernel_rfl
theorem f82.b_eq {R : Type} (L N : Nat) (κ : AV → Option R) (x0 : Move) (x1 : Move) :
    evBody (E82 L N) (evCallI (E82 L N) 0 1000) 1000 82 Try.f82 [(.tv (.st 0) x0), (.tv (.st 0) x1)] [] [] (finC (.one i64) κ)
    = f82.b L N (fun a0 => κ (.tv i64 a0)) x0 x1 := by
  rw [f82.b_pre]
  unfold f82.b
  rfl
theorem f82.b'_nat {R R' : Type} (j : R → Option R') (L N : Nat) (k : Int → Option R) (x0 : Move) (x1 : Move) :
    f82.b' L N (fun a0 => (k a0).bind j) x0 x1 = (f82.b' L N k x0 x1).bind j := by
  unfold f82.b'
  repeat' (first | (with_reducible refine cond_nat ?_ ?_) | (with_reducible refine bind_nat fun _ => ?_) | rfl)
theorem f82.b_nat {R R' : Type} (j : R → Option R') (L N : Nat) (k : Int → Option R) (x0 : Move) (x1 : Move) :
    f82.b L N (fun a0 => (k a0).bind j) x0 x1 = (f82.b L N k x0 x1).bind j := by
  unfold f82.b
  exact f82.b'_nat ..
theorem f82.ok (L N : Nat) (hΦ : TellsOk Try.prog ((Φ98 L N))) : EntOk Try.prog 82 (f82.ent L N) := by
  intro args vw site h
  unfold f82.ent
  split
  · rename_i d ha
    intro y hy hs
    refine call_ro (dep := 1000) (E := (E82 L N)) (rs := (.one i64)) (v := (.tv i64 y)) (sound_of hΦ) okP (callI_sound (sound_of hΦ) okP 0 1000) (f := Try.f82) rfl hs ha ?_ rfl site
    refine (f82.b_eq L N some d.1 d.2.1).trans ?_
    refine ((f82.b_nat (fun y => (some (.tv i64 y) : Option AV)) L N some d.1 d.2.1)).trans ?_
    rw [show f82.b L N some d.1 d.2.1 = some y from hy]
    rfl
  · intro y hy
    cases hy
def Φ82 (L N : Nat) : Tells := (addT (Φ98 L N) 82 (f82.ent L N))
theorem Φ82_ok (L N : Nat) : TellsOk Try.prog (Φ82 L N) := addT_ok (Φ98_ok L N) (f82.ok L N (Φ98_ok L N))
def f65.s1' {R : Type} (L N : Nat) (k1_e2 : (List (List Move)) → Int → Int → (List (List Move)) → Option R) (k1_r : Bool → (List (List Move)) → Int → Int → (List (List Move)) → Option R) (rec1 : (List Move) → (List (List Move)) → Int → Int → (List Move) → Int → Int → (List (List Move)) → Option R) (s7 : (List Move)) (s8 : (List (List Move))) (s9 : Int) (s10 : Int) (s11 : (List Move)) (s12 : Int) (s13 : Int) (s14 : (List (List Move))) : Option R :=
  bif (decide (s13 < s12)) then
    bif (decide (0 ≤ s13) && decide (s13 < (s11.length : Int))) then
      (f74 L N ((listAt s11 (Ty.dflt (.st 0)) s13.toNat).act)).bind fun y19 =>
      bif (!y19) then
        k1_r false s8 s9 s10 s14
      else bif (decide ((listAt s11 (Ty.dflt (.st 0)) s13.toNat).to < (0 : Int))) then
        k1_r false s8 s9 s10 s14
      else bif (decide ((listAt s11 (Ty.dflt (.st 0)) s13.toNat).to ≥ (s14.length : Int))) then
        k1_r false s8 s9 s10 s14
      else bif (decide (s13 > (0 : Int))) then
        bif (decide (0 ≤ (wi (s13 - (1 : Int)))) && decide ((wi (s13 - (1 : Int))) < (s7.length : Int))) then
          (f82 L N (listAt s7 (Ty.dflt (.st 0)) (wi (s13 - (1 : Int))).toNat) (Move.mk ((listAt s11 (Ty.dflt (.st 0)) s13.toNat).act) ((listAt s11 (Ty.dflt (.st 0)) s13.toNat).to))).bind fun y20 =>
          bif (decide (y20 ≥ (0 : Int))) then
            k1_r false s8 s9 s10 s14
          else rec1 s7 s8 s9 s10 s11 s12 (wi (s13 + (1 : Int))) s14
        else none
      else rec1 s7 s8 s9 s10 s11 s12 (wi (s13 + (1 : Int))) s14
    else none
  else k1_e2 s8 s9 s10 s14
def f65.s1 {R : Type} (L N : Nat) (k1_e2 : (List (List Move)) → Int → Int → (List (List Move)) → Option R) (k1_r : Bool → (List (List Move)) → Int → Int → (List (List Move)) → Option R) (rec1 : (List Move) → (List (List Move)) → Int → Int → (List Move) → Int → Int → (List (List Move)) → Option R) (s7 : (List Move)) (s8 : (List (List Move))) (s9 : Int) (s10 : Int) (s11 : (List Move)) (s12 : Int) (s13 : Int) (s14 : (List (List Move))) : Option R :=
  f65.s1' L N k1_e2 k1_r rec1 s7 s8 s9 s10 s11 s12 s13 s14
def f65.l1 {R : Type} (L N : Nat) (k1_e2 : (List (List Move)) → Int → Int → (List (List Move)) → Option R) (k1_r : Bool → (List (List Move)) → Int → Int → (List (List Move)) → Option R) : Nat → (List Move) → (List (List Move)) → Int → Int → (List Move) → Int → Int → (List (List Move)) → Option R
  | 0, _, _, _, _, _, _, _, _ => none
  | n + 1, s7, s8, s9, s10, s11, s12, s13, s14 => f65.s1 L N k1_e2 k1_r (f65.l1 L N k1_e2 k1_r n) s7 s8 s9 s10 s11 s12 s13 s14
def f65.T1 (s7 : (List Move)) (s8 : (List (List Move))) (s9 : Int) (s10 : Int) (s11 : (List Move)) (s12 : Int) (s13 : Int) (s14 : (List (List Move))) : T := mkT 64 [(1, (.ptr 1001 0)), (4, (.tv (.sl (.st 0)) s7)), (18, (.tv (.sl (.sl (.st 0))) s8)), (19, (.tv i64 s9)), (20, (.tv i64 s10)), (24, (.tv (.sl (.st 0)) s11)), (25, (.tv i64 s12)), (26, (.tv i64 s13))]
def f65.H1 (s7 : (List Move)) (s8 : (List (List Move))) (s9 : Int) (s10 : Int) (s11 : (List Move)) (s12 : Int) (s13 : Int) (s14 : (List (List Move))) : H := [(1001, (.box [(.tv (.sl (.sl (.st 0))) s14)]))]
def f65.T1_e2 (z15 : (List (List Move))) (z16 : Int) (z17 : Int) (z18 : (List (List Move))) : T := mkT 64 [(1, (.ptr 1001 0)), (18, (.tv (.sl (.sl (.st 0))) z15)), (19, (.tv i64 z16)), (20, (.tv i64 z17))]
def f65.H1_e2 (z15 : (List (List Move))) (z16 : Int) (z17 : Int) (z18 : (List (List Move))) : H := [(1001, (.box [(.tv (.sl (.sl (.st 0))) z18)]))]
def f65.T1_r (z30 : Bool) (z31 : (List (List Move))) (z32 : Int) (z33 : Int) (z34 : (List (List Move))) : T := mkT 64 [(1, (.ptr 1001 0)), (2, (.tv .bool z30)), (18, (.tv (.sl (.sl (.st 0))) z31)), (19, (.tv i64 z32)), (20, (.tv i64 z33))]
def f65.H1_r (z30 : Bool) (z31 : (List (List Move))) (z32 : Int) (z33 : Int) (z34 : (List (List Move))) : H := [(1001, (.box [(.tv (.sl (.sl (.st 0))) z34)]))]
def f65.p1_e2' {R : Type} (L N : Nat) (k0_e0 : Option R) (k0_r : Bool → Option R) (rec0 : (List (List Move)) → Int → Int → (List (List Move)) → Option R) (z15 : (List (List Move))) (z16 : Int) (z17 : Int) (z18 : (List (List Move))) : Option R :=
  rec0 z15 z16 (wi (z17 + (1 : Int))) z18
def f65.p1_e2 {R : Type} (L N : Nat) (k0_e0 : Option R) (k0_r : Bool → Option R) (rec0 : (List (List Move)) → Int → Int → (List (List Move)) → Option R) (z15 : (List (List Move))) (z16 : Int) (z17 : Int) (z18 : (List (List Move))) : Option R :=
  f65.p1_e2' L N k0_e0 k0_r rec0 z15 z16 z17 z18
def f65.p1_r' {R : Type} (L N : Nat) (k0_e0 : Option R) (k0_r : Bool → Option R) (rec0 : (List (List Move)) → Int → Int → (List (List Move)) → Option R) (z30 : Bool) (z31 : (List (List Move))) (z32 : Int) (z33 : Int) (z34 : (List (List Move))) : Option R :=
  k0_r z30
def f65.p1_r {R : Type} (L N : Nat) (k0_e0 : Option R) (k0_r : Bool → Option R) (rec0 : (List (List Move)) → Int → Int → (List (List Move)) → Option R) (z30 : Bool) (z31 : (List (List Move))) (z32 : Int) (z33 : Int) (z34 : (List (List Move))) : Option R :=
  f65.p1_r' L N k0_e0 k0_r rec0 z30 z31 z32 z33 z34
def f65.s0' {R : Type} (L N : Nat) (k0_e0 : Option R) (k0_r : Bool → Option R) (rec0 : (List (List Move)) → Int → Int → (List (List Move)) → Option R) (w1 : (List Move) → (List (List Move)) → Int → Int → (List Move) → Int → Int → (List (List Move)) → Option R) (s3 : (List (List Move))) (s4 : Int) (s5 : Int) (s6 : (List (List Move))) : Option R :=
  bif (decide (s5 < s4)) then
    bif (decide (0 ≤ s5) && decide (s5 < (s3.length : Int))) then
      w1 (listAt s3 [] s5.toNat) s3 s4 s5 (listAt s3 [] s5.toNat) ((listAt s3 [] s5.toNat).length : Int) (0 : Int) s6
    else none
  else k0_e0
def f65.s0 {R : Type} (L N : Nat) (k0_e0 : Option R) (k0_r : Bool → Option R) (rec0 : (List (List Move)) → Int → Int → (List (List Move)) → Option R) (s3 : (List (List Move))) (s4 : Int) (s5 : Int) (s6 : (List (List Move))) : Option R :=
  f65.s0' L N k0_e0 k0_r rec0 (fun s7 s8 s9 s10 s11 s12 s13 s14 => f65.l1 L N (fun z15 z16 z17 z18 => f65.p1_e2 L N k0_e0 k0_r rec0 z15 z16 z17 z18) (fun z30 z31 z32 z33 z34 => f65.p1_r L N k0_e0 k0_r rec0 z30 z31 z32 z33 z34) L s7 s8 s9 s10 s11 s12 s13 s14) s3 s4 s5 s6
def f65.l0 {R : Type} (L N : Nat) (k0_e0 : Option R) (k0_r : Bool → Option R) : Nat → (List (List Move)) → Int → Int → (List (List Move)) → Option R
  | 0, _, _, _, _ => none
  | n + 1, s3, s4, s5, s6 => f65.s0 L N k0_e0 k0_r (f65.l0 L N k0_e0 k0_r n) s3 s4 s5 s6
def f65.T0 (s3 : (List (List Move))) (s4 : Int) (s5 : Int) (s6 : (List (List Move))) : T := mkT 64 [(1, (.ptr 1001 0)), (18, (.tv (.sl (.sl (.st 0))) s3)), (19, (.tv i64 s4)), (20, (.tv i64 s5))]
def f65.H0 (s3 : (List (List Move))) (s4 : Int) (s5 : Int) (s6 : (List (List Move))) : H := [(1001, (.box [(.tv (.sl (.sl (.st 0))) s6)]))]
def f65.T0_e0 : T := mkT 64 []
def f65.H0_e0 : H := []
def f65.T0_r (z43 : Bool) : T := mkT 64 [(2, (.tv .bool z43))]
def f65.H0_r (z43 : Bool) : H := []
def f65.p0_e0' {R : Type} (L N : Nat) (k : Bool → Option R) : Option R :=
  k true
def f65.p0_e0 {R : Type} (L N : Nat) (k : Bool → Option R) : Option R :=
  f65.p0_e0' L N k
def f65.p0_r' {R : Type} (L N : Nat) (k : Bool → Option R) (z43 : Bool) : Option R :=
  k z43
def f65.p0_r {R : Type} (L N : Nat) (k : Bool → Option R) (z43 : Bool) : Option R :=
  f65.p0_r' L N k z43
def f65.j0' {R : Type} (L N : Nat) (k : Bool → Option R) (w0 : (List (List Move)) → Int → Int → (List (List Move)) → Option R) (v2 : (List (List Move))) : Option R :=
  w0 v2 (v2.length : Int) (0 : Int) v2
def f65.b' {R : Type} (L N : Nat) (k : Bool → Option R) (w0 : (List (List Move)) → Int → Int → (List (List Move)) → Option R) (x0 : Graph) : Option R :=
  bif (decide ((x0.moves.length : Int) < (1 : Int))) then
    k false
  else bif (decide ((x0.moves.length : Int) > (60 : Int))) then
    k false
  else f65.j0' L N k w0 x0.moves
def f65.b {R : Type} (L N : Nat) (k : Bool → Option R) (x0 : Graph) : Option R :=
  f65.b' L N k (fun s3 s4 s5 s6 => f65.l0 L N (f65.p0_e0 L N k) (fun z43 => f65.p0_r L N k z43) L s3 s4 s5 s6) x0
def f65 (L N : Nat) (x0 : Graph) : Option (Bool) := f65.b L N some x0
def f65.ent (L N : Nat) (args : List AV) (vw : View) (site : Nat) : Ans := match roD [(.st 2)] vw args with
  | some d => ⟨Bool, f65 L N d.1, fun y => ((.tv .bool y), [], [])⟩
  | none => Ans.no
noncomputable def E65 (L N : Nat) : Env := { P := Try.prog, ty := tyOf, Φ := (Φ82 L N), inl := fun _ => false, live := lives, liveX := livesX, L := L }
noncomputable def f65.c0 : Code := loopAt 0 (codeOf Try.f65)
noncomputable def f65.c1 : Code := loopAt 2 f65.c0
theorem f65.s1_pre {R : Type} (L N : Nat) (κ : Ex → T → H → Option R) (rec : T → H → Option R) (s7 : (List Move)) (s8 : (List (List Move))) (s9 : Int) (s10 : Int) (s11 : (List Move)) (s12 : Int) (s13 : Int) (s14 : (List (List Move))) :
    evRd (E65 L N) (evCallI (E65 L N) 0 1000) 1000 65 64 2 f65.c1 κ rec (f65.T1 s7 s8 s9 s10 s11 s12 s13 s14) (f65.H1 s7 s8 s9 s10 s11 s12 s13 s14)
    = f65.s1' L N (fun z15 z16 z17 z18 => κ (.exit 2) (f65.T1_e2 z15 z16 z17 z18) (f65.H1_e2 z15 z16 z17 z18)) (fun z30 z31 z32 z33 z34 => κ .ret (f65.T1_r z30 z31 z32 z33 z34) (f65.H1_r z30 z31 z32 z33 z34)) (fun s7 s8 s9 s10 s11 s12 s13 s14 => rec (f65.T1 s7 s8 s9 s10 s11 s12 s13 s14) (f65.H1 s7 s8 s9 s10 s11 s12 s13 s14)) s7 s8 s9 s10 s11 s12 s13 s14 := by kernel_rfl
theorem f65.s1_eq {R : Type} (L N : Nat) (κ : Ex → T → H → Option R) (rec : T → H → Option R) (s7 : (List Move)) (s8 : (List (List Move))) (s9 : Int) (s10 : Int) (s11 : (List Move)) (s12 : Int) (s13 : Int) (s14 : (List (List Move))) :
    evRd (E65 L N) (evCallI (E65 L N) 0 1000) 1000 65 64 2 f65.c1 κ rec (f65.T1 s7 s8 s9 s10 s11 s12 s13 s14) (f65.H1 s7 s8 s9 s10 s11 s12 s13 s14)
    = f65.s1 L N (fun z15 z16 z17 z18 => κ (.exit 2) (f65.T1_e2 z15 z16 z17 z18) (f65.H1_e2 z15 z16 z17 z18)) (fun z30 z31 z32 z33 z34 => κ .ret (f65.T1_r z30 z31 z32 z33 z34) (f65.H1_r z30 z31 z32 z33 z34)) (fun s7 s8 s9 s10 s11 s12 s13 s14 => rec (f65.T1 s7 s8 s9 s10 s11 s12 s13 s14) (f65.H1 s7 s8 s9 s10 s11 s12 s13 s14)) s7 s8 s9 s10 s11 s12 s13 s14 := by
  rw [f65.s1_pre]
  unfold f65.s1
  rfl
theorem f65.l1_eq {R : Type} (L N : Nat) (κ : Ex → T → H → Option R) : ∀ (n : Nat) (s7 : (List Move)) (s8 : (List (List Move))) (s9 : Int) (s10 : Int) (s11 : (List Move)) (s12 : Int) (s13 : Int) (s14 : (List (List Move))),
    evLp (E65 L N) (evCallI (E65 L N) 0 1000) 1000 65 64 2 f65.c1 κ n (f65.T1 s7 s8 s9 s10 s11 s12 s13 s14) (f65.H1 s7 s8 s9 s10 s11 s12 s13 s14)
    = f65.l1 L N (fun z15 z16 z17 z18 => κ (.exit 2) (f65.T1_e2 z15 z16 z17 z18) (f65.H1_e2 z15 z16 z17 z18)) (fun z30 z31 z32 z33 z34 => κ .ret (f65.T1_r z30 z31 z32 z33 z34) (f65.H1_r z30 z31 z32 z33 z34)) n s7 s8 s9 s10 s11 s12 s13 s14 := by
  intro n
  induction n with
  | zero => intros; rfl
  | succ n ih =>
    intro s7 s8 s9 s10 s11 s12 s13 s14
    rw [evLp_succ, f65.s1_eq]
    simp only [ih]
    rfl
theorem f65.p1_e2_pre {R : Type} (L N : Nat) (κ : Ex → T → H → Option R) (rec : T → H → Option R) (z15 : (List (List Move))) (z16 : Int) (z17 : Int) (z18 : (List (List Move))) :
    (contAt (E65 L N) (evCallI (E65 L N) 0 1000) 1000 65 64 2 f65.c0 (stepK (outK (keepT 64 ((E65 L N).liveX 65 0).1) (keepH 1000 ((E65 L N).liveX 65 0).2) κ) fun t h => rec (keepT 64 ((E65 L N).live 65 0).1 t) (keepH 1000 ((E65 L N).live 65 0).2 h))) (.exit 2) (f65.T1_e2 z15 z16 z17 z18) (f65.H1_e2 z15 z16 z17 z18)
    = f65.p1_e2' L N (κ (.exit 0) f65.T0_e0 f65.H0_e0) (fun z43 => κ .ret (f65.T0_r z43) (f65.H0_r z43)) (fun s3 s4 s5 s6 => rec (f65.T0 s3 s4 s5 s6) (f65.H0 s3 s4 s5 s6)) z15 z16 z17 z18 := by kernel_rfl
theorem f65.p1_e2_eq {R : Type} (L N : Nat) (κ : Ex → T → H → Option R) (rec : T → H → Option R) (z15 : (List (List Move))) (z16 : Int) (z17 : Int) (z18 : (List (List Move))) :
    (contAt (E65 L N) (evCallI (E65 L N) 0 1000) 1000 65 64 2 f65.c0 (stepK (outK (keepT 64 ((E65 L N).liveX 65 0).1) (keepH 1000 ((E65 L N).liveX 65 0).2) κ) fun t h => rec (keepT 64 ((E65 L N).live 65 0).1 t) (keepH 1000 ((E65 L N).live 65 0).2 h))) (.exit 2) (f65.T1_e2 z15 z16 z17 z18) (f65.H1_e2 z15 z16 z17 z18)
    = f65.p1_e2 L N (κ (.exit 0) f65.T0_e0 f65.H0_e0) (fun z43 => κ .ret (f65.T0_r z43) (f65.H0_r z43)) (fun s3 s4 s5 s6 => rec (f65.T0 s3 s4 s5 s6) (f65.H0 s3 s4 s5 s6)) z15 z16 z17 z18 := by
  rw [f65.p1_e2_pre]
  unfold f65.p1_e2
  rfl
theorem f65.p1_r_pre {R : Type} (L N : Nat) (κ : Ex → T → H → Option R) (rec : T → H → Option R) (z30 : Bool) (z31 : (List (List Move))) (z32 : Int) (z33 : Int) (z34 : (List (List Move))) :
    (contAt (E65 L N) (evCallI (E65 L N) 0 1000) 1000 65 64 2 f65.c0 (stepK (outK (keepT 64 ((E65 L N).liveX 65 0).1) (keepH 1000 ((E65 L N).liveX 65 0).2) κ) fun t h => rec (keepT 64 ((E65 L N).live 65 0).1 t) (keepH 1000 ((E65 L N).live 65 0).2 h))) .ret (f65.T1_r z30 z31 z32 z33 z34) (f65.H1_r z30 z31 z32 z33 z34)
    = f65.p1_r' L N (κ (.exit 0) f65.T0_e0 f65.H0_e0) (fun z43 => κ .ret (f65.T0_r z43) (f65.H0_r z43)) (fun s3 s4 s5 s6 => rec (f65.T0 s3 s4 s5 s6) (f65.H0 s3 s4 s5 s6)) z30 z31 z32 z33 z34 := by kernel_rfl
theorem f65.p1_r_eq {R : Type} (L N : Nat) (κ : Ex → T → H → Option R) (rec : T → H → Option R) (z30 : Bool) (z31 : (List (List Move))) (z32 : Int) (z33 : Int) (z34 : (List (List Move))) :
    (contAt (E65 L N) (evCallI (E65 L N) 0 1000) 1000 65 64 2 f65.c0 (stepK (outK (keepT 64 ((E65 L N).liveX 65 0).1) (keepH 1000 ((E65 L N).liveX 65 0).2) κ) fun t h => rec (keepT 64 ((E65 L N).live 65 0).1 t) (keepH 1000 ((E65 L N).live 65 0).2 h))) .ret (f65.T1_r z30 z31 z32 z33 z34) (f65.H1_r z30 z31 z32 z33 z34)
    = f65.p1_r L N (κ (.exit 0) f65.T0_e0 f65.H0_e0) (fun z43 => κ .ret (f65.T0_r z43) (f65.H0_r z43)) (fun s3 s4 s5 s6 => rec (f65.T0 s3 s4 s5 s6) (f65.H0 s3 s4 s5 s6)) z30 z31 z32 z33 z34 := by
  rw [f65.p1_r_pre]
  unfold f65.p1_r
  rfl
theorem f65.s0_pre {R : Type} (L N : Nat) (κ : Ex → T → H → Option R) (rec : T → H → Option R) (s3 : (List (List Move))) (s4 : Int) (s5 : Int) (s6 : (List (List Move))) :
    evRd (E65 L N) (evCallI (E65 L N) 0 1000) 1000 65 64 0 f65.c0 κ rec (f65.T0 s3 s4 s5 s6) (f65.H0 s3 s4 s5 s6)
    = f65.s0' L N (κ (.exit 0) f65.T0_e0 f65.H0_e0) (fun z43 => κ .ret (f65.T0_r z43) (f65.H0_r z43)) (fun s3 s4 s5 s6 => rec (f65.T0 s3 s4 s5 s6) (f65.H0 s3 s4 s5 s6)) (fun s7 s8 s9 s10 s11 s12 s13 s14 => evLp (E65 L N) (evCallI (E65 L N) 0 1000) 1000 65 64 2 f65.c1 (contAt (E65 L N) (evCallI (E65 L N) 0 1000) 1000 65 64 2 f65.c0 (stepK (outK (keepT 64 ((E65 L N).liveX 65 0).1) (keepH 1000 ((E65 L N).liveX 65 0).2) κ) fun t h => rec (keepT 64 ((E65 L N).live 65 0).1 t) (keepH 1000 ((E65 L N).live 65 0).2 h))) L (f65.T1 s7 s8 s9 s10 s11 s12 s13 s14) (f65.H1 s7 s8 s9 s10 s11 s12 s13 s14)) s3 s4 s5 s6 := by kernel_rfl
theorem f65.s0_eq {R : Type} (L N : Nat) (κ : Ex → T → H → Option R) (rec : T → H → Option R) (s3 : (List (List Move))) (s4 : Int) (s5 : Int) (s6 : (List (List Move))) :
    evRd (E65 L N) (evCallI (E65 L N) 0 1000) 1000 65 64 0 f65.c0 κ rec (f65.T0 s3 s4 s5 s6) (f65.H0 s3 s4 s5 s6)
    = f65.s0 L N (κ (.exit 0) f65.T0_e0 f65.H0_e0) (fun z43 => κ .ret (f65.T0_r z43) (f65.H0_r z43)) (fun s3 s4 s5 s6 => rec (f65.T0 s3 s4 s5 s6) (f65.H0 s3 s4 s5 s6)) s3 s4 s5 s6 := by
  rw [f65.s0_pre]
  unfold f65.s0
  simp only [f65.l1_eq, f65.p1_e2_eq, f65.p1_r_eq]
theorem f65.l0_eq {R : Type} (L N : Nat) (κ : Ex → T → H → Option R) : ∀ (n : Nat) (s3 : (List (List Move))) (s4 : Int) (s5 : Int) (s6 : (List (List Move))),
    evLp (E65 L N) (evCallI (E65 L N) 0 1000) 1000 65 64 0 f65.c0 κ n (f65.T0 s3 s4 s5 s6) (f65.H0 s3 s4 s5 s6)
    = f65.l0 L N (κ (.exit 0) f65.T0_e0 f65.H0_e0) (fun z43 => κ .ret (f65.T0_r z43) (f65.H0_r z43)) n s3 s4 s5 s6 := by
  intro n
  induction n with
  | zero => intros; rfl
  | succ n ih =>
    intro s3 s4 s5 s6
    rw [evLp_succ, f65.s0_eq]
    simp only [ih]
    rfl
theorem f65.p0_e0_pre {R : Type} (L N : Nat) (κ : AV → Option R) :
    (contAt (E65 L N) (evCallI (E65 L N) 0 1000) 1000 65 64 0 (codeOf Try.f65) (finK (E65 L N) 1000 Try.f65 (finC (.one .bool) κ))) (.exit 0) f65.T0_e0 f65.H0_e0
    = f65.p0_e0' L N (fun a0 => κ (.tv .bool a0)) := by kernel_rfl
theorem f65.p0_e0_eq {R : Type} (L N : Nat) (κ : AV → Option R) :
    (contAt (E65 L N) (evCallI (E65 L N) 0 1000) 1000 65 64 0 (codeOf Try.f65) (finK (E65 L N) 1000 Try.f65 (finC (.one .bool) κ))) (.exit 0) f65.T0_e0 f65.H0_e0
    = f65.p0_e0 L N (fun a0 => κ (.tv .bool a0)) := by
  rw [f65.p0_e0_pre]
  unfold f65.p0_e0
  rfl
theorem f65.p0_r_pre {R : Type} (L N : Nat) (κ : AV → Option R) (z43 : Bool) :
    (contAt (E65 L N) (evCallI (E65 L N) 0 1000) 1000 65 64 0 (codeOf Try.f65) (finK (E65 L N) 1000 Try.f65 (finC (.one .bool) κ))) .ret (f65.T0_r z43) (f65.H0_r z43)
    = f65.p0_r' L N (fun a0 => κ (.tv .bool a0)) z43 := by kernel_rfl
theorem f65.p0_r_eq {R : Type} (L N : Nat) (κ : AV → Option R) (z43 : Bool) :
    (contAt (E65 L N) (evCallI (E65 L N) 0 1000) 1000 65 64 0 (codeOf Try.f65) (finK (E65 L N) 1000 Try.f65 (finC (.one .bool) κ))) .ret (f65.T0_r z43) (f65.H0_r z43)
    = f65.p0_r L N (fun a0 => κ (.tv .bool a0)) z43 := by
  rw [f65.p0_r_pre]
  unfold f65.p0_r
  rfl
theorem f65.b_pre {R : Type} (L N : Nat) (κ : AV → Option R) (x0 : Graph) :
    evBody (E65 L N) (evCallI (E65 L N) 0 1000) 1000 65 Try.f65 [(.tv (.st 2) x0)] [] [] (finC (.one .bool) κ)
    = f65.b' L N (fun a0 => κ (.tv .bool a0)) (fun s3 s4 s5 s6 => evLp (E65 L N) (evCallI (E65 L N) 0 1000) 1000 65 64 0 f65.c0 (contAt (E65 L N) (evCallI (E65 L N) 0 1000) 1000 65 64 0 (codeOf Try.f65) (finK (E65 L N) 1000 Try.f65 (finC (.one .bool) κ))) L (f65.T0 s3 s4 s5 s6) (f65.H0 s3 s4 s5 s6)) x0 := by kernel_rfl
theorem f65.b_eq {R : Type} (L N : Nat) (κ : AV → Option R) (x0 : Graph) :
    evBody (E65 L N) (evCallI (E65 L N) 0 1000) 1000 65 Try.f65 [(.tv (.st 2) x0)] [] [] (finC (.one .bool) κ)
    = f65.b L N (fun a0 => κ (.tv .bool a0)) x0 := by
  rw [f65.b_pre]
  unfold f65.b
  simp only [f65.l0_eq, f65.p0_e0_eq, f65.p0_r_eq]
theorem f65.s1'_nat {R R' : Type} (j : R → Option R') (L N : Nat) (k1_e2 : (List (List Move)) → Int → Int → (List (List Move)) → Option R) (k1_r : Bool → (List (List Move)) → Int → Int → (List (List Move)) → Option R) (rec1 : (List Move) → (List (List Move)) → Int → Int → (List Move) → Int → Int → (List (List Move)) → Option R) (s7 : (List Move)) (s8 : (List (List Move))) (s9 : Int) (s10 : Int) (s11 : (List Move)) (s12 : Int) (s13 : Int) (s14 : (List (List Move))) :
    f65.s1' L N (fun a0 a1 a2 a3 => (k1_e2 a0 a1 a2 a3).bind j) (fun a0 a1 a2 a3 a4 => (k1_r a0 a1 a2 a3 a4).bind j) (fun a0 a1 a2 a3 a4 a5 a6 a7 => (rec1 a0 a1 a2 a3 a4 a5 a6 a7).bind j) s7 s8 s9 s10 s11 s12 s13 s14 = (f65.s1' L N k1_e2 k1_r rec1 s7 s8 s9 s10 s11 s12 s13 s14).bind j := by
  unfold f65.s1'
  repeat' (first | (with_reducible refine cond_nat ?_ ?_) | (with_reducible refine bind_nat fun _ => ?_) | rfl)
theorem f65.s1_nat {R R' : Type} (j : R → Option R') (L N : Nat) (k1_e2 : (List (List Move)) → Int → Int → (List (List Move)) → Option R) (k1_r : Bool → (List (List Move)) → Int → Int → (List (List Move)) → Option R) (rec1 : (List Move) → (List (List Move)) → Int → Int → (List Move) → Int → Int → (List (List Move)) → Option R) (s7 : (List Move)) (s8 : (List (List Move))) (s9 : Int) (s10 : Int) (s11 : (List Move)) (s12 : Int) (s13 : Int) (s14 : (List (List Move))) :
    f65.s1 L N (fun a0 a1 a2 a3 => (k1_e2 a0 a1 a2 a3).bind j) (fun a0 a1 a2 a3 a4 => (k1_r a0 a1 a2 a3 a4).bind j) (fun a0 a1 a2 a3 a4 a5 a6 a7 => (rec1 a0 a1 a2 a3 a4 a5 a6 a7).bind j) s7 s8 s9 s10 s11 s12 s13 s14 = (f65.s1 L N k1_e2 k1_r rec1 s7 s8 s9 s10 s11 s12 s13 s14).bind j := by
  unfold f65.s1
  exact f65.s1'_nat ..
theorem f65.l1_nat {R R' : Type} (j : R → Option R') (L N : Nat) (k1_e2 : (List (List Move)) → Int → Int → (List (List Move)) → Option R) (k1_r : Bool → (List (List Move)) → Int → Int → (List (List Move)) → Option R) : ∀ (n : Nat) (s7 : (List Move)) (s8 : (List (List Move))) (s9 : Int) (s10 : Int) (s11 : (List Move)) (s12 : Int) (s13 : Int) (s14 : (List (List Move))),
    f65.l1 L N (fun a0 a1 a2 a3 => (k1_e2 a0 a1 a2 a3).bind j) (fun a0 a1 a2 a3 a4 => (k1_r a0 a1 a2 a3 a4).bind j) n s7 s8 s9 s10 s11 s12 s13 s14 = (f65.l1 L N k1_e2 k1_r n s7 s8 s9 s10 s11 s12 s13 s14).bind j := by
  intro n
  induction n with
  | zero => intros; rfl
  | succ n ih =>
    intro s7 s8 s9 s10 s11 s12 s13 s14
    show f65.s1 L N (fun a0 a1 a2 a3 => (k1_e2 a0 a1 a2 a3).bind j) (fun a0 a1 a2 a3 a4 => (k1_r a0 a1 a2 a3 a4).bind j) (f65.l1 L N (fun a0 a1 a2 a3 => (k1_e2 a0 a1 a2 a3).bind j) (fun a0 a1 a2 a3 a4 => (k1_r a0 a1 a2 a3 a4).bind j) n) s7 s8 s9 s10 s11 s12 s13 s14 = _
    rw [show f65.l1 L N (fun a0 a1 a2 a3 => (k1_e2 a0 a1 a2 a3).bind j) (fun a0 a1 a2 a3 a4 => (k1_r a0 a1 a2 a3 a4).bind j) n = (fun s7 s8 s9 s10 s11 s12 s13 s14 => (f65.l1 L N k1_e2 k1_r n s7 s8 s9 s10 s11 s12 s13 s14).bind j) from funext fun s7 => funext fun s8 => funext fun s9 => funext fun s10 => funext fun s11 => funext fun s12 => funext fun s13 => funext fun s14 => ih s7 s8 s9 s10 s11 s12 s13 s14]
    exact f65.s1_nat ..
theorem f65.p1_e2'_nat {R R' : Type} (j : R → Option R') (L N : Nat) (k0_e0 : Option R) (k0_r : Bool → Option R) (rec0 : (List (List Move)) → Int → Int → (List (List Move)) → Option R) (z15 : (List (List Move))) (z16 : Int) (z17 : Int) (z18 : (List (List Move))) :
    f65.p1_e2' L N (k0_e0.bind j) (fun a0 => (k0_r a0).bind j) (fun a0 a1 a2 a3 => (rec0 a0 a1 a2 a3).bind j) z15 z16 z17 z18 = (f65.p1_e2' L N k0_e0 k0_r rec0 z15 z16 z17 z18).bind j := by
  unfold f65.p1_e2'
  repeat' (first | (with_reducible refine cond_nat ?_ ?_) | (with_reducible refine bind_nat fun _ => ?_) | rfl)
theorem f65.p1_e2_nat {R R' : Type} (j : R → Option R') (L N : Nat) (k0_e0 : Option R) (k0_r : Bool → Option R) (rec0 : (List (List Move)) → Int → Int → (List (List Move)) → Option R) (z15 : (List (List Move))) (z16 : Int) (z17 : Int) (z18 : (List (List Move))) :
    f65.p1_e2 L N (k0_e0.bind j) (fun a0 => (k0_r a0).bind j) (fun a0 a1 a2 a3 => (rec0 a0 a1 a2 a3).bind j) z15 z16 z17 z18 = (f65.p1_e2 L N k0_e0 k0_r rec0 z15 z16 z17 z18).bind j := by
  unfold f65.p1_e2
  exact f65.p1_e2'_nat ..
theorem f65.p1_r'_nat {R R' : Type} (j : R → Option R') (L N : Nat) (k0_e0 : Option R) (k0_r : Bool → Option R) (rec0 : (List (List Move)) → Int → Int → (List (List Move)) → Option R) (z30 : Bool) (z31 : (List (List Move))) (z32 : Int) (z33 : Int) (z34 : (List (List Move))) :
    f65.p1_r' L N (k0_e0.bind j) (fun a0 => (k0_r a0).bind j) (fun a0 a1 a2 a3 => (rec0 a0 a1 a2 a3).bind j) z30 z31 z32 z33 z34 = (f65.p1_r' L N k0_e0 k0_r rec0 z30 z31 z32 z33 z34).bind j := by
  unfold f65.p1_r'
  repeat' (first | (with_reducible refine cond_nat ?_ ?_) | (with_reducible refine bind_nat fun _ => ?_) | rfl)
theorem f65.p1_r_nat {R R' : Type} (j : R → Option R') (L N : Nat) (k0_e0 : Option R) (k0_r : Bool → Option R) (rec0 : (List (List Move)) → Int → Int → (List (List Move)) → Option R) (z30 : Bool) (z31 : (List (List Move))) (z32 : Int) (z33 : Int) (z34 : (List (List Move))) :
    f65.p1_r L N (k0_e0.bind j) (fun a0 => (k0_r a0).bind j) (fun a0 a1 a2 a3 => (rec0 a0 a1 a2 a3).bind j) z30 z31 z32 z33 z34 = (f65.p1_r L N k0_e0 k0_r rec0 z30 z31 z32 z33 z34).bind j := by
  unfold f65.p1_r
  exact f65.p1_r'_nat ..
theorem f65.s0'_nat {R R' : Type} (j : R → Option R') (L N : Nat) (k0_e0 : Option R) (k0_r : Bool → Option R) (rec0 : (List (List Move)) → Int → Int → (List (List Move)) → Option R) (w1 : (List Move) → (List (List Move)) → Int → Int → (List Move) → Int → Int → (List (List Move)) → Option R) (s3 : (List (List Move))) (s4 : Int) (s5 : Int) (s6 : (List (List Move))) :
    f65.s0' L N (k0_e0.bind j) (fun a0 => (k0_r a0).bind j) (fun a0 a1 a2 a3 => (rec0 a0 a1 a2 a3).bind j) (fun a0 a1 a2 a3 a4 a5 a6 a7 => (w1 a0 a1 a2 a3 a4 a5 a6 a7).bind j) s3 s4 s5 s6 = (f65.s0' L N k0_e0 k0_r rec0 w1 s3 s4 s5 s6).bind j := by
  unfold f65.s0'
  repeat' (first | (with_reducible refine cond_nat ?_ ?_) | (with_reducible refine bind_nat fun _ => ?_) | rfl)
theorem f65.s0_nat {R R' : Type} (j : R → Option R') (L N : Nat) (k0_e0 : Option R) (k0_r : Bool → Option R) (rec0 : (List (List Move)) → Int → Int → (List (List Move)) → Option R) (s3 : (List (List Move))) (s4 : Int) (s5 : Int) (s6 : (List (List Move))) :
    f65.s0 L N (k0_e0.bind j) (fun a0 => (k0_r a0).bind j) (fun a0 a1 a2 a3 => (rec0 a0 a1 a2 a3).bind j) s3 s4 s5 s6 = (f65.s0 L N k0_e0 k0_r rec0 s3 s4 s5 s6).bind j := by
  unfold f65.s0
  simp only [f65.l1_nat, f65.p1_e2_nat, f65.p1_r_nat]
  exact f65.s0'_nat ..
theorem f65.l0_nat {R R' : Type} (j : R → Option R') (L N : Nat) (k0_e0 : Option R) (k0_r : Bool → Option R) : ∀ (n : Nat) (s3 : (List (List Move))) (s4 : Int) (s5 : Int) (s6 : (List (List Move))),
    f65.l0 L N (k0_e0.bind j) (fun a0 => (k0_r a0).bind j) n s3 s4 s5 s6 = (f65.l0 L N k0_e0 k0_r n s3 s4 s5 s6).bind j := by
  intro n
  induction n with
  | zero => intros; rfl
  | succ n ih =>
    intro s3 s4 s5 s6
    show f65.s0 L N (k0_e0.bind j) (fun a0 => (k0_r a0).bind j) (f65.l0 L N (k0_e0.bind j) (fun a0 => (k0_r a0).bind j) n) s3 s4 s5 s6 = _
    rw [show f65.l0 L N (k0_e0.bind j) (fun a0 => (k0_r a0).bind j) n = (fun s3 s4 s5 s6 => (f65.l0 L N k0_e0 k0_r n s3 s4 s5 s6).bind j) from funext fun s3 => funext fun s4 => funext fun s5 => funext fun s6 => ih s3 s4 s5 s6]
    exact f65.s0_nat ..
theorem f65.p0_e0'_nat {R R' : Type} (j : R → Option R') (L N : Nat) (k : Bool → Option R) :
    f65.p0_e0' L N (fun a0 => (k a0).bind j) = (f65.p0_e0' L N k).bind j := by
  unfold f65.p0_e0'
  repeat' (first | (with_reducible refine cond_nat ?_ ?_) | (with_reducible refine bind_nat fun _ => ?_) | rfl)
theorem f65.p0_e0_nat {R R' : Type} (j : R → Option R') (L N : Nat) (k : Bool → Option R) :
    f65.p0_e0 L N (fun a0 => (k a0).bind j) = (f65.p0_e0 L N k).bind j := by
  unfold f65.p0_e0
  exact f65.p0_e0'_nat ..
theorem f65.p0_r'_nat {R R' : Type} (j : R → Option R') (L N : Nat) (k : Bool → Option R) (z43 : Bool) :
    f65.p0_r' L N (fun a0 => (k a0).bind j) z43 = (f65.p0_r' L N k z43).bind j := by
  unfold f65.p0_r'
  repeat' (first | (with_reducible refine cond_nat ?_ ?_) | (with_reducible refine bind_nat fun _ => ?_) | rfl)
theorem f65.p0_r_nat {R R' : Type} (j : R → Option R') (L N : Nat) (k : Bool → Option R) (z43 : Bool) :
    f65.p0_r L N (fun a0 => (k a0).bind j) z43 = (f65.p0_r L N k z43).bind j := by
  unfold f65.p0_r
  exact f65.p0_r'_nat ..
end Go.Proofs.Ythkonljgjjlloaa.Ev
