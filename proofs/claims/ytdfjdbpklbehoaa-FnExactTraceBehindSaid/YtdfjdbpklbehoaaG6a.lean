/- The seat's functions as plain functions: made by program (wip/gen/gen.py). -/
import Derived.Test.YtdfjdbpklbehoaaEvYa
import Derived.Test.YtdfjdbpklbehoaaShelf
namespace Go.Proofs.Ytdfjdbpklbehoaa.Ev
open Go
set_option linter.unusedVariables false
set_option maxRecDepth 20000
def tyTab : List (Nat × Ty) := [(2, i64), (3, i64), (4, .bool), (5, (.int .u8)), (6, (.int .u8)), (9, .str), (10, .str), (11, .str), (12, (.int .u64)), (21, (.int .i32)), (22, (.sl (.sl (.st 0)))), (23, (.st 2)), (24, (.st 2)), (25, (.sl (.st 1))), (26, (.st 1)), (27, (.st 1)), (30, (.sl i64)), (32, (.sl (.sl (.st 0)))), (33, (.st 2)), (34, (.st 2)), (36, (.sl (.st 1))), (37, (.st 1)), (38, (.st 1)), (47, (.sl (.int .u8))), (51, (.sl (.st 0))), (52, (.st 0)), (53, (.st 0)), (71, (.sl .bool)), (88, (.sl (.sl i64))), (98, (.sl (.st 0))), (103, (.sl (.sl .bool))), (108, (.sl (.st 1))), (109, (.st 1)), (110, (.st 1)), (129, (.st 0)), (142, (.sl .str)), (143, (.sl (.st 3))), (146, (.st 3)), (151, (.int .u64)), (159, i64), (168, (.int .u32)), (170, (.int .u64)), (177, (.int .u64)), (196, (.int .u8)), (197, (.int .u8)), (200, (.int .i32)), (201, (.int .i32))]
def tyOf (t : Nat) : Option Ty := tyFind t tyTab
def lives (f i : Nat) : List Nat × List Nat :=
  bif Nat.beq f 21 && Nat.beq i 0 then ([0, 1, 5], []) else
  bif Nat.beq f 26 && Nat.beq i 0 then ([0, 1, 5], []) else
  bif Nat.beq f 27 && Nat.beq i 0 then ([0, 1, 5], []) else
  bif Nat.beq f 32 && Nat.beq i 0 then ([1, 18, 19, 20], [1]) else
  bif Nat.beq f 32 && Nat.beq i 2 then ([1, 4, 18, 19, 20, 24, 25, 26], [1]) else
  bif Nat.beq f 36 && Nat.beq i 0 then ([0, 3, 4], [7]) else
  bif Nat.beq f 56 && Nat.beq i 0 then ([0, 1, 5], []) else
  bif Nat.beq f 58 && Nat.beq i 0 then ([1, 3], [1]) else
  bif Nat.beq f 58 && Nat.beq i 2 then ([1, 3, 4], [1]) else
  bif Nat.beq f 61 && Nat.beq i 0 then ([0, 3, 4], [7]) else
  bif Nat.beq f 64 && Nat.beq i 0 then ([0, 1, 5], []) else
  bif Nat.beq f 66 && Nat.beq i 0 then ([0, 1, 5], []) else
  bif Nat.beq f 74 && Nat.beq i 0 then ([0, 3], []) else
  bif Nat.beq f 76 && Nat.beq i 0 then ([1, 2, 5, 6], [2]) else
  bif Nat.beq f 77 && Nat.beq i 0 then ([0, 3, 4], [5]) else
  bif Nat.beq f 79 && Nat.beq i 0 then ([2, 5, 11, 12, 13], [2, 10]) else
  bif Nat.beq f 100 && Nat.beq i 0 then ([0, 3, 4], [7]) else
  bif Nat.beq f 101 && Nat.beq i 0 then ([0, 1, 5], []) else
  bif Nat.beq f 102 && Nat.beq i 0 then ([0, 1, 5], []) else
  bif Nat.beq f 110 && Nat.beq i 0 then ([1, 2, 3, 7, 8], [3, 12]) else
  bif Nat.beq f 110 && Nat.beq i 2 then ([1, 2, 3, 7, 8, 9], [3, 12]) else
  bif Nat.beq f 112 && Nat.beq i 0 then ([2, 5, 6, 17, 18, 19], [2, 15, 16]) else
  bif Nat.beq f 112 && Nat.beq i 2 then ([2, 5, 6, 9], [2, 15, 16]) else
  bif Nat.beq f 112 && Nat.beq i 4 then ([2, 5, 6, 9, 49, 50, 51], [2, 15, 16]) else
  bif Nat.beq f 113 && Nat.beq i 0 then ([2, 3, 7, 13, 14, 15], [3, 12]) else
  bif Nat.beq f 113 && Nat.beq i 2 then ([2, 3, 7, 13, 14, 15, 23, 24, 25], [3, 12]) else
  bif Nat.beq f 137 && Nat.beq i 0 then ([2, 5, 6], [2, 10]) else
  bif Nat.beq f 137 && Nat.beq i 2 then ([2, 5, 6, 7], [2, 10]) else
  bif Nat.beq f 137 && Nat.beq i 4 then ([2, 5, 6, 7, 8], [2, 10]) else
  bif Nat.beq f 153 && Nat.beq i 0 then ([0, 1, 7, 8], []) else
  ([], [])
def livesX (f i : Nat) : List Nat × List Nat :=
  bif Nat.beq f 21 && Nat.beq i 0 then ([4], []) else
  bif Nat.beq f 26 && Nat.beq i 0 then ([1], []) else
  bif Nat.beq f 27 && Nat.beq i 0 then ([1, 4], []) else
  bif Nat.beq f 32 && Nat.beq i 0 then ([2], []) else
  bif Nat.beq f 32 && Nat.beq i 2 then ([1, 2, 18, 19, 20], [1]) else
  bif Nat.beq f 36 && Nat.beq i 0 then ([3], [7]) else
  bif Nat.beq f 56 && Nat.beq i 0 then ([1, 4], []) else
  bif Nat.beq f 58 && Nat.beq i 0 then ([2], []) else
  bif Nat.beq f 58 && Nat.beq i 2 then ([1, 2, 3], [1]) else
  bif Nat.beq f 61 && Nat.beq i 0 then ([3], [7]) else
  bif Nat.beq f 64 && Nat.beq i 0 then ([4], []) else
  bif Nat.beq f 66 && Nat.beq i 0 then ([1], []) else
  bif Nat.beq f 74 && Nat.beq i 0 then ([0, 2], []) else
  bif Nat.beq f 76 && Nat.beq i 0 then ([5], []) else
  bif Nat.beq f 77 && Nat.beq i 0 then ([3], [5]) else
  bif Nat.beq f 79 && Nat.beq i 0 then ([5], [10]) else
  bif Nat.beq f 100 && Nat.beq i 0 then ([3], [7]) else
  bif Nat.beq f 101 && Nat.beq i 0 then ([4], []) else
  bif Nat.beq f 102 && Nat.beq i 0 then ([1], []) else
  bif Nat.beq f 110 && Nat.beq i 0 then ([3, 7], [3, 12]) else
  bif Nat.beq f 110 && Nat.beq i 2 then ([1, 2, 3, 7, 8], [3, 12]) else
  bif Nat.beq f 112 && Nat.beq i 0 then ([2, 5, 6], [2, 15, 16]) else
  bif Nat.beq f 112 && Nat.beq i 2 then ([6], [16]) else
  bif Nat.beq f 112 && Nat.beq i 4 then ([2, 5, 6, 9], [2, 15, 16]) else
  bif Nat.beq f 113 && Nat.beq i 0 then ([3, 7], [3, 12]) else
  bif Nat.beq f 113 && Nat.beq i 2 then ([2, 3, 7, 13, 14, 15], [3, 12]) else
  bif Nat.beq f 137 && Nat.beq i 0 then ([5], [10]) else
  bif Nat.beq f 137 && Nat.beq i 2 then ([2, 5, 6], [2, 10]) else
  bif Nat.beq f 137 && Nat.beq i 4 then ([2, 5, 6, 7], [2, 10]) else
  bif Nat.beq f 153 && Nat.beq i 0 then ([4], []) else
  ([], [])
def promT (f i : Nat) : List (Nat × Nat × Nat × Option Nat × Nat × Ty) :=
  []
def healT (f i : Nat) : List Nat :=
  bif Nat.beq f 66 && Nat.beq i 0 then [0] else
  []
def renT (f i : Nat) : List (Nat × Nat) :=
  bif Nat.beq f 79 && Nat.beq i 0 then [(10, 20)] else
  []
def inlT (f : Nat) : Bool := memN f [24, 25]
theorem okP : OkP Try.prog := OkP.mk' (by kernel_rfl) (by kernel_rfl)
def Φx (L N : Nat) : Tells := addT noTells 141 sortEnt
theorem Φx_ok (L N : Nat) : TellsOk Try.prog (Φx L N) := addT_ok (no_ok _) (sort_ok ⟨Try.f141, rfl, by kernel_rfl, by kernel_rfl⟩ sortC sortNone)
def f95.b' {R : Type} (L N : Nat) (k : Int → Option R) (x0 : (List Move)) (x1 : Int) : Option R :=
  bif (decide ((wi (x1 - (x0.length : Int))) < (0 : Int))) then
    k (-1 : Int)
  else k (wi (x1 - (x0.length : Int)))
def f95.b {R : Type} (L N : Nat) (k : Int → Option R) (x0 : (List Move)) (x1 : Int) : Option R :=
  f95.b' L N k x0 x1
def f95 (L N : Nat) (x0 : (List Move)) (x1 : Int) : Option (Int) := f95.b L N some x0 x1
def f95.ent (L N : Nat) (args : List AV) (vw : View) (site : Nat) : Ans := match roD [(.sl (.st 0)), i64] vw args with
  | some d => ⟨Int, f95 L N d.1 d.2.1, fun y => ((.tv i64 y), [], [])⟩
  | none => Ans.no
noncomputable def E95 (L N : Nat) : Env := { P := Try.prog, ty := tyOf, Φ := (Φx L N), inl := inlT, live := lives, liveX := livesX, L := L, dp := none, prom := promT, heal := healT, ren := renT }
theorem f95.b_pre {R : Type} (L N : Nat) (κ : AV → Option R) (x0 : (List Move)) (x1 : Int) :
    evBody (E95 L N) (evCallI (E95 L N) 1 2000) 1000 95 Try.f95 [(.tv (.sl (.st 0)) x0), (.tv i64 x1)] [] [] (finC (.one i64) κ)
    = f95.b' L N (fun a0 => κ (.tv i64 a0)) x0 x1 := by kernel_rfl
theorem f95.b_eq {R : Type} (L N : Nat) (κ : AV → Option R) (x0 : (List Move)) (x1 : Int) :
    evBody (E95 L N) (evCallI (E95 L N) 1 2000) 1000 95 Try.f95 [(.tv (.sl (.st 0)) x0), (.tv i64 x1)] [] [] (finC (.one i64) κ)
    = f95.b L N (fun a0 => κ (.tv i64 a0)) x0 x1 := by
  rw [f95.b_pre]
  unfold f95.b
  rfl
theorem f95.b'_nat {R R' : Type} (j : R → Option R') (L N : Nat) (k : Int → Option R) (x0 : (List Move)) (x1 : Int) :
    f95.b' L N (fun a0 => (k a0).bind j) x0 x1 = (f95.b' L N k x0 x1).bind j := by
  unfold f95.b'
  repeat' (first | (with_reducible refine cond_nat ?_ ?_) | (with_reducible refine bind_nat fun _ => ?_) | rfl)
theorem f95.b_nat {R R' : Type} (j : R → Option R') (L N : Nat) (k : Int → Option R) (x0 : (List Move)) (x1 : Int) :
    f95.b L N (fun a0 => (k a0).bind j) x0 x1 = (f95.b L N k x0 x1).bind j := by
  unfold f95.b
  exact f95.b'_nat ..
theorem f95.ok (L N : Nat) (hΦ : TellsOk Try.prog ((Φx L N))) : EntOk Try.prog 95 (f95.ent L N) := by
  intro args vw site h
  unfold f95.ent
  split
  · rename_i d ha
    intro y hy hs
    refine call_ro (dep := 1000) (E := (E95 L N)) (rs := (.one i64)) (v := (.tv i64 y)) (sound_of hΦ) okP (callI_sound (sound_of hΦ) okP 1 2000) (f := Try.f95) rfl hs ha ?_ rfl site
    refine (f95.b_eq L N some d.1 d.2.1).trans ?_
    refine ((f95.b_nat (fun y => (some (.tv i64 y) : Option AV)) L N some d.1 d.2.1)).trans ?_
    rw [show f95.b L N some d.1 d.2.1 = some y from hy]
    rfl
  · intro y hy
    cases hy
def Φ95 (L N : Nat) : Tells := (addT (Φx L N) 95 (f95.ent L N))
theorem Φ95_ok (L N : Nat) : TellsOk Try.prog (Φ95 L N) := addT_ok (Φx_ok L N) (f95.ok L N (Φx_ok L N))
def f56.s0' {R : Type} (L N : Nat) (k0_e0 : Int → Option R) (k0_r : Int → Int → Option R) (rec0 : (List (List Move)) → Int → Int → Option R) (s0 : (List (List Move))) (s1 : Int) (s2 : Int) : Option R :=
  bif (decide (s2 < (s0.length : Int))) then
    bif (decide (0 ≤ s2) && decide (s2 < (s0.length : Int))) then
      (f95 L N (listAt s0 [] s2.toNat) s1).bind fun y4 =>
      bif (decide (y4 < (0 : Int))) then
        k0_r y4 (-1 : Int)
      else rec0 s0 y4 (wi (s2 + (1 : Int)))
    else none
  else k0_e0 s1
def f56.s0 {R : Type} (L N : Nat) (k0_e0 : Int → Option R) (k0_r : Int → Int → Option R) (rec0 : (List (List Move)) → Int → Int → Option R) (s0 : (List (List Move))) (s1 : Int) (s2 : Int) : Option R :=
  f56.s0' L N k0_e0 k0_r rec0 s0 s1 s2
def f56.l0 {R : Type} (L N : Nat) (k0_e0 : Int → Option R) (k0_r : Int → Int → Option R) : Nat → (List (List Move)) → Int → Int → Option R
  | 0, _, _, _ => none
  | n + 1, s0, s1, s2 => f56.s0 L N k0_e0 k0_r (f56.l0 L N k0_e0 k0_r n) s0 s1 s2
def f56.T0 (s0 : (List (List Move))) (s1 : Int) (s2 : Int) : T := mkT 27 [(0, (.tv (.sl (.sl (.st 0))) s0)), (1, (.tv i64 s1)), (5, (.tv i64 s2))]
def f56.H0 (s0 : (List (List Move))) (s1 : Int) (s2 : Int) : H := []
def f56.T0_e0 (z3 : Int) : T := mkT 27 [(1, (.tv i64 z3))]
def f56.H0_e0 (z3 : Int) : H := []
def f56.T0_r (z5 : Int) (z6 : Int) : T := mkT 27 [(1, (.tv i64 z5)), (4, (.tv i64 z6))]
def f56.H0_r (z5 : Int) (z6 : Int) : H := []
def f56.p0_e0' {R : Type} (L N : Nat) (k : Int → Option R) (z3 : Int) : Option R :=
  k z3
def f56.p0_e0 {R : Type} (L N : Nat) (k : Int → Option R) (z3 : Int) : Option R :=
  f56.p0_e0' L N k z3
def f56.p0_r' {R : Type} (L N : Nat) (k : Int → Option R) (z5 : Int) (z6 : Int) : Option R :=
  k z6
def f56.p0_r {R : Type} (L N : Nat) (k : Int → Option R) (z5 : Int) (z6 : Int) : Option R :=
  f56.p0_r' L N k z5 z6
def f56.b' {R : Type} (L N : Nat) (k : Int → Option R) (w0 : (List (List Move)) → Int → Int → Option R) (x0 : (List (List Move))) (x1 : Int) : Option R :=
  bif (decide ((wi (x1 - (x0.length : Int))) < (0 : Int))) then
    k (-1 : Int)
  else w0 x0 (wi (x1 - (x0.length : Int))) (0 : Int)
def f56.b {R : Type} (L N : Nat) (k : Int → Option R) (x0 : (List (List Move))) (x1 : Int) : Option R :=
  f56.b' L N k (fun s0 s1 s2 => f56.l0 L N (fun z3 => f56.p0_e0 L N k z3) (fun z5 z6 => f56.p0_r L N k z5 z6) L s0 s1 s2) x0 x1
def f56 (L N : Nat) (x0 : (List (List Move))) (x1 : Int) : Option (Int) := f56.b L N some x0 x1
def f56.ent (L N : Nat) (args : List AV) (vw : View) (site : Nat) : Ans := match roD [(.sl (.sl (.st 0))), i64] vw args with
  | some d => ⟨Int, f56 L N d.1 d.2.1, fun y => ((.tv i64 y), [], [])⟩
  | none => Ans.no
noncomputable def E56 (L N : Nat) : Env := { P := Try.prog, ty := tyOf, Φ := (Φ95 L N), inl := inlT, live := lives, liveX := livesX, L := L, dp := none, prom := promT, heal := healT, ren := renT }
noncomputable def f56.c0 : Code := loopAt 0 (codeOf Try.f56)
theorem f56.s0_pre {R : Type} (L N : Nat) (κ : Ex → T → H → Option R) (rec : T → H → Option R) (s0 : (List (List Move))) (s1 : Int) (s2 : Int) :
    evRd (E56 L N) (evCallI (E56 L N) 1 2000) 1000 56 27 0 f56.c0 κ rec (f56.T0 s0 s1 s2) (f56.H0 s0 s1 s2)
    = f56.s0' L N (fun z3 => κ (.exit 0) (f56.T0_e0 z3) (f56.H0_e0 z3)) (fun z5 z6 => κ .ret (f56.T0_r z5 z6) (f56.H0_r z5 z6)) (fun s0 s1 s2 => rec (f56.T0 s0 s1 s2) (f56.H0 s0 s1 s2)) s0 s1 s2 := by kernel_rfl
theorem f56.s0_eq {R : Type} (L N : Nat) (κ : Ex → T → H → Option R) (rec : T → H → Option R) (s0 : (List (List Move))) (s1 : Int) (s2 : Int) :
    evRd (E56 L N) (evCallI (E56 L N) 1 2000) 1000 56 27 0 f56.c0 κ rec (f56.T0 s0 s1 s2) (f56.H0 s0 s1 s2)
    = f56.s0 L N (fun z3 => κ (.exit 0) (f56.T0_e0 z3) (f56.H0_e0 z3)) (fun z5 z6 => κ .ret (f56.T0_r z5 z6) (f56.H0_r z5 z6)) (fun s0 s1 s2 => rec (f56.T0 s0 s1 s2) (f56.H0 s0 s1 s2)) s0 s1 s2 := by
  rw [f56.s0_pre]
  unfold f56.s0
  rfl
theorem f56.l0_eq {R : Type} (L N : Nat) (κ : Ex → T → H → Option R) : ∀ (n : Nat) (s0 : (List (List Move))) (s1 : Int) (s2 : Int),
    evLp (E56 L N) (evCallI (E56 L N) 1 2000) 1000 56 27 0 f56.c0 κ n (f56.T0 s0 s1 s2) (f56.H0 s0 s1 s2)
    = f56.l0 L N (fun z3 => κ (.exit 0) (f56.T0_e0 z3) (f56.H0_e0 z3)) (fun z5 z6 => κ .ret (f56.T0_r z5 z6) (f56.H0_r z5 z6)) n s0 s1 s2 := by
  intro n
  induction n with
  | zero => intros; rfl
  | succ n ih =>
    intro s0 s1 s2
    rw [evLp_succ, f56.s0_eq]
    simp only [ih]
    rfl
theorem f56.p0_e0_pre {R : Type} (L N : Nat) (κ : AV → Option R) (z3 : Int) :
    (contAt (E56 L N) (evCallI (E56 L N) 1 2000) 1000 56 27 0 (codeOf Try.f56) (finK (E56 L N) 1000 Try.f56 (finC (.one i64) κ))) (.exit 0) (f56.T0_e0 z3) (f56.H0_e0 z3)
    = f56.p0_e0' L N (fun a0 => κ (.tv i64 a0)) z3 := by kernel_rfl
theorem f56.p0_e0_eq {R : Type} (L N : Nat) (κ : AV → Option R) (z3 : Int) :
    (contAt (E56 L N) (evCallI (E56 L N) 1 2000) 1000 56 27 0 (codeOf Try.f56) (finK (E56 L N) 1000 Try.f56 (finC (.one i64) κ))) (.exit 0) (f56.T0_e0 z3) (f56.H0_e0 z3)
    = f56.p0_e0 L N (fun a0 => κ (.tv i64 a0)) z3 := by
  rw [f56.p0_e0_pre]
  unfold f56.p0_e0
  rfl
theorem f56.p0_r_pre {R : Type} (L N : Nat) (κ : AV → Option R) (z5 : Int) (z6 : Int) :
    (contAt (E56 L N) (evCallI (E56 L N) 1 2000) 1000 56 27 0 (codeOf Try.f56) (finK (E56 L N) 1000 Try.f56 (finC (.one i64) κ))) .ret (f56.T0_r z5 z6) (f56.H0_r z5 z6)
    = f56.p0_r' L N (fun a0 => κ (.tv i64 a0)) z5 z6 := by kernel_rfl
theorem f56.p0_r_eq {R : Type} (L N : Nat) (κ : AV → Option R) (z5 : Int) (z6 : Int) :
    (contAt (E56 L N) (evCallI (E56 L N) 1 2000) 1000 56 27 0 (codeOf Try.f56) (finK (E56 L N) 1000 Try.f56 (finC (.one i64) κ))) .ret (f56.T0_r z5 z6) (f56.H0_r z5 z6)
    = f56.p0_r L N (fun a0 => κ (.tv i64 a0)) z5 z6 := by
  rw [f56.p0_r_pre]
  unfold f56.p0_r
  rfl
theorem f56.b_pre {R : Type} (L N : Nat) (κ : AV → Option R) (x0 : (List (List Move))) (x1 : Int) :
    evBody (E56 L N) (evCallI (E56 L N) 1 2000) 1000 56 Try.f56 [(.tv (.sl (.sl (.st 0))) x0), (.tv i64 x1)] [] [] (finC (.one i64) κ)
    = f56.b' L N (fun a0 => κ (.tv i64 a0)) (fun s0 s1 s2 => evLp (E56 L N) (evCallI (E56 L N) 1 2000) 1000 56 27 0 f56.c0 (contAt (E56 L N) (evCallI (E56 L N) 1 2000) 1000 56 27 0 (codeOf Try.f56) (finK (E56 L N) 1000 Try.f56 (finC (.one i64) κ))) L (f56.T0 s0 s1 s2) (f56.H0 s0 s1 s2)) x0 x1 := by kernel_rfl
theorem f56.b_eq {R : Type} (L N : Nat) (κ : AV → Option R) (x0 : (List (List Move))) (x1 : Int) :
    evBody (E56 L N) (evCallI (E56 L N) 1 2000) 1000 56 Try.f56 [(.tv (.sl (.sl (.st 0))) x0), (.tv i64 x1)] [] [] (finC (.one i64) κ)
    = f56.b L N (fun a0 => κ (.tv i64 a0)) x0 x1 := by
  rw [f56.b_pre]
  unfold f56.b
  simp only [f56.l0_eq, f56.p0_e0_eq, f56.p0_r_eq]
theorem f56.s0'_nat {R R' : Type} (j : R → Option R') (L N : Nat) (k0_e0 : Int → Option R) (k0_r : Int → Int → Option R) (rec0 : (List (List Move)) → Int → Int → Option R) (s0 : (List (List Move))) (s1 : Int) (s2 : Int) :
    f56.s0' L N (fun a0 => (k0_e0 a0).bind j) (fun a0 a1 => (k0_r a0 a1).bind j) (fun a0 a1 a2 => (rec0 a0 a1 a2).bind j) s0 s1 s2 = (f56.s0' L N k0_e0 k0_r rec0 s0 s1 s2).bind j := by
  unfold f56.s0'
  repeat' (first | (with_reducible refine cond_nat ?_ ?_) | (with_reducible refine bind_nat fun _ => ?_) | rfl)
theorem f56.s0_nat {R R' : Type} (j : R → Option R') (L N : Nat) (k0_e0 : Int → Option R) (k0_r : Int → Int → Option R) (rec0 : (List (List Move)) → Int → Int → Option R) (s0 : (List (List Move))) (s1 : Int) (s2 : Int) :
    f56.s0 L N (fun a0 => (k0_e0 a0).bind j) (fun a0 a1 => (k0_r a0 a1).bind j) (fun a0 a1 a2 => (rec0 a0 a1 a2).bind j) s0 s1 s2 = (f56.s0 L N k0_e0 k0_r rec0 s0 s1 s2).bind j := by
  unfold f56.s0
  exact f56.s0'_nat ..
theorem f56.l0_nat {R R' : Type} (j : R → Option R') (L N : Nat) (k0_e0 : Int → Option R) (k0_r : Int → Int → Option R) : ∀ (n : Nat) (s0 : (List (List Move))) (s1 : Int) (s2 : Int),
    f56.l0 L N (fun a0 => (k0_e0 a0).bind j) (fun a0 a1 => (k0_r a0 a1).bind j) n s0 s1 s2 = (f56.l0 L N k0_e0 k0_r n s0 s1 s2).bind j := by
  intro n
  induction n with
  | zero => intros; rfl
  | succ n ih =>
    intro s0 s1 s2
    show f56.s0 L N (fun a0 => (k0_e0 a0).bind j) (fun a0 a1 => (k0_r a0 a1).bind j) (f56.l0 L N (fun a0 => (k0_e0 a0).bind j) (fun a0 a1 => (k0_r a0 a1).bind j) n) s0 s1 s2 = _
    rw [show f56.l0 L N (fun a0 => (k0_e0 a0).bind j) (fun a0 a1 => (k0_r a0 a1).bind j) n = (fun s0 s1 s2 => (f56.l0 L N k0_e0 k0_r n s0 s1 s2).bind j) from funext fun s0 => funext fun s1 => funext fun s2 => ih s0 s1 s2]
    exact f56.s0_nat ..
theorem f56.p0_e0'_nat {R R' : Type} (j : R → Option R') (L N : Nat) (k : Int → Option R) (z3 : Int) :
    f56.p0_e0' L N (fun a0 => (k a0).bind j) z3 = (f56.p0_e0' L N k z3).bind j := by
  unfold f56.p0_e0'
  repeat' (first | (with_reducible refine cond_nat ?_ ?_) | (with_reducible refine bind_nat fun _ => ?_) | rfl)
theorem f56.p0_e0_nat {R R' : Type} (j : R → Option R') (L N : Nat) (k : Int → Option R) (z3 : Int) :
    f56.p0_e0 L N (fun a0 => (k a0).bind j) z3 = (f56.p0_e0 L N k z3).bind j := by
  unfold f56.p0_e0
  exact f56.p0_e0'_nat ..
theorem f56.p0_r'_nat {R R' : Type} (j : R → Option R') (L N : Nat) (k : Int → Option R) (z5 : Int) (z6 : Int) :
    f56.p0_r' L N (fun a0 => (k a0).bind j) z5 z6 = (f56.p0_r' L N k z5 z6).bind j := by
  unfold f56.p0_r'
  repeat' (first | (with_reducible refine cond_nat ?_ ?_) | (with_reducible refine bind_nat fun _ => ?_) | rfl)
theorem f56.p0_r_nat {R R' : Type} (j : R → Option R') (L N : Nat) (k : Int → Option R) (z5 : Int) (z6 : Int) :
    f56.p0_r L N (fun a0 => (k a0).bind j) z5 z6 = (f56.p0_r L N k z5 z6).bind j := by
  unfold f56.p0_r
  exact f56.p0_r'_nat ..
theorem f56.b'_nat {R R' : Type} (j : R → Option R') (L N : Nat) (k : Int → Option R) (w0 : (List (List Move)) → Int → Int → Option R) (x0 : (List (List Move))) (x1 : Int) :
    f56.b' L N (fun a0 => (k a0).bind j) (fun a0 a1 a2 => (w0 a0 a1 a2).bind j) x0 x1 = (f56.b' L N k w0 x0 x1).bind j := by
  unfold f56.b'
  repeat' (first | (with_reducible refine cond_nat ?_ ?_) | (with_reducible refine bind_nat fun _ => ?_) | rfl)
theorem f56.b_nat {R R' : Type} (j : R → Option R') (L N : Nat) (k : Int → Option R) (x0 : (List (List Move))) (x1 : Int) :
    f56.b L N (fun a0 => (k a0).bind j) x0 x1 = (f56.b L N k x0 x1).bind j := by
  unfold f56.b
  simp only [f56.l0_nat, f56.p0_e0_nat, f56.p0_r_nat]
  exact f56.b'_nat ..
theorem f56.ok (L N : Nat) (hΦ : TellsOk Try.prog ((Φ95 L N))) : EntOk Try.prog 56 (f56.ent L N) := by
  intro args vw site h
  unfold f56.ent
  split
  · rename_i d ha
    intro y hy hs
    refine call_ro (dep := 1000) (E := (E56 L N)) (rs := (.one i64)) (v := (.tv i64 y)) (sound_of hΦ) okP (callI_sound (sound_of hΦ) okP 1 2000) (f := Try.f56) rfl hs ha ?_ rfl site
    refine (f56.b_eq L N some d.1 d.2.1).trans ?_
    refine ((f56.b_nat (fun y => (some (.tv i64 y) : Option AV)) L N some d.1 d.2.1)).trans ?_
    rw [show f56.b L N some d.1 d.2.1 = some y from hy]
    rfl
  · intro y hy
    cases hy
def Φ56 (L N : Nat) : Tells := (addT (Φ95 L N) 56 (f56.ent L N))
theorem Φ56_ok (L N : Nat) : TellsOk Try.prog (Φ56 L N) := addT_ok (Φ95_ok L N) (f56.ok L N (Φ95_ok L N))
def f15.b' {R : Type} (L N : Nat) (k : Int → Option R) (x0 : Graph) (x1 : Int) : Option R :=
  (f56 L N x0.moves x1).bind fun y0 =>
  bif (decide (y0 < (0 : Int))) then
    k (-1 : Int)
  else k y0
def f15.b {R : Type} (L N : Nat) (k : Int → Option R) (x0 : Graph) (x1 : Int) : Option R :=
  f15.b' L N k x0 x1
def f15 (L N : Nat) (x0 : Graph) (x1 : Int) : Option (Int) := f15.b L N some x0 x1
def f15.ent (L N : Nat) (args : List AV) (vw : View) (site : Nat) : Ans := match roD [(.st 2), i64] vw args with
  | some d => ⟨Int, f15 L N d.1 d.2.1, fun y => ((.tv i64 y), [], [])⟩
  | none => Ans.no
noncomputable def E15 (L N : Nat) : Env := { P := Try.prog, ty := tyOf, Φ := (Φ56 L N), inl := inlT, live := lives, liveX := livesX, L := L, dp := none, prom := promT, heal := healT, ren := renT }
theorem f15.b_pre {R : Type} (L N : Nat) (κ : AV → Option R) (x0 : Graph) (x1 : Int) :
    evBody (E15 L N) (evCallI (E15 L N) 1 2000) 1000 15 Try.f15 [(.tv (.st 2) x0), (.tv i64 x1)] [] [] (finC (.one i64) κ)
    = f15.b' L N (fun a0 => κ (.tv i64 a0)) x0 x1 := by kernel_rfl
theorem f15.b_eq {R : Type} (L N : Nat) (κ : AV → Option R) (x0 : Graph) (x1 : Int) :
    evBody (E15 L N) (evCallI (E15 L N) 1 2000) 1000 15 Try.f15 [(.tv (.st 2) x0), (.tv i64 x1)] [] [] (finC (.one i64) κ)
    = f15.b L N (fun a0 => κ (.tv i64 a0)) x0 x1 := by
  rw [f15.b_pre]
  unfold f15.b
  rfl
theorem f15.b'_nat {R R' : Type} (j : R → Option R') (L N : Nat) (k : Int → Option R) (x0 : Graph) (x1 : Int) :
    f15.b' L N (fun a0 => (k a0).bind j) x0 x1 = (f15.b' L N k x0 x1).bind j := by
  unfold f15.b'
  repeat' (first | (with_reducible refine cond_nat ?_ ?_) | (with_reducible refine bind_nat fun _ => ?_) | rfl)
theorem f15.b_nat {R R' : Type} (j : R → Option R') (L N : Nat) (k : Int → Option R) (x0 : Graph) (x1 : Int) :
    f15.b L N (fun a0 => (k a0).bind j) x0 x1 = (f15.b L N k x0 x1).bind j := by
  unfold f15.b
  exact f15.b'_nat ..
theorem f15.ok (L N : Nat) (hΦ : TellsOk Try.prog ((Φ56 L N))) : EntOk Try.prog 15 (f15.ent L N) := by
  intro args vw site h
  unfold f15.ent
  split
  · rename_i d ha
    intro y hy hs
    refine call_ro (dep := 1000) (E := (E15 L N)) (rs := (.one i64)) (v := (.tv i64 y)) (sound_of hΦ) okP (callI_sound (sound_of hΦ) okP 1 2000) (f := Try.f15) rfl hs ha ?_ rfl site
    refine (f15.b_eq L N some d.1 d.2.1).trans ?_
    refine ((f15.b_nat (fun y => (some (.tv i64 y) : Option AV)) L N some d.1 d.2.1)).trans ?_
    rw [show f15.b L N some d.1 d.2.1 = some y from hy]
    rfl
  · intro y hy
    cases hy
def Φ15 (L N : Nat) : Tells := (addT (Φ56 L N) 15 (f15.ent L N))
theorem Φ15_ok (L N : Nat) : TellsOk Try.prog (Φ15 L N) := addT_ok (Φ56_ok L N) (f15.ok L N (Φ56_ok L N))
def f128.b' {R : Type} (L N : Nat) (k : Move → Option R) (x0 : Move) : Option R :=
  k (Move.mk ((Move.mk x0.act x0.to).act) ((Move.mk x0.act x0.to).to))
def f128.b {R : Type} (L N : Nat) (k : Move → Option R) (x0 : Move) : Option R :=
  f128.b' L N k x0
def f128 (L N : Nat) (x0 : Move) : Option (Move) := f128.b L N some x0
def f128.ent (L N : Nat) (args : List AV) (vw : View) (site : Nat) : Ans := match coeD [(.st 0)] vw args with
  | some (d, u) => ⟨Move, f128 L N d.1, fun y => ((.tv (.st 0) y), u, [])⟩
  | none => Ans.no
noncomputable def E128 (L N : Nat) : Env := { P := Try.prog, ty := tyOf, Φ := (Φ15 L N), inl := inlT, live := lives, liveX := livesX, L := L, dp := none, prom := promT, heal := healT, ren := renT }
theorem f128.b_pre {R : Type} (L N : Nat) (κ : AV → Option R) (x0 : Move) :
    evBody (E128 L N) (evCallI (E128 L N) 1 2000) 1000 128 Try.f128 [(.tv (.st 0) x0)] [] [] (finC (.one (.st 0)) κ)
    = f128.b' L N (fun a0 => κ (.tv (.st 0) a0)) x0 := by kernel_rfl
theorem f128.b_eq {R : Type} (L N : Nat) (κ : AV → Option R) (x0 : Move) :
    evBody (E128 L N) (evCallI (E128 L N) 1 2000) 1000 128 Try.f128 [(.tv (.st 0) x0)] [] [] (finC (.one (.st 0)) κ)
    = f128.b L N (fun a0 => κ (.tv (.st 0) a0)) x0 := by
  rw [f128.b_pre]
  unfold f128.b
  rfl
theorem f128.b'_nat {R R' : Type} (j : R → Option R') (L N : Nat) (k : Move → Option R) (x0 : Move) :
    f128.b' L N (fun a0 => (k a0).bind j) x0 = (f128.b' L N k x0).bind j := by
  unfold f128.b'
  repeat' (first | (with_reducible refine cond_nat ?_ ?_) | (with_reducible refine bind_nat fun _ => ?_) | rfl)
theorem f128.b_nat {R R' : Type} (j : R → Option R') (L N : Nat) (k : Move → Option R) (x0 : Move) :
    f128.b L N (fun a0 => (k a0).bind j) x0 = (f128.b L N k x0).bind j := by
  unfold f128.b
  exact f128.b'_nat ..
theorem f128.ok (L N : Nat) (hΦ : TellsOk Try.prog ((Φ15 L N))) : EntOk Try.prog 128 (f128.ent L N) := by
  intro args vw site h
  unfold f128.ent
  split
  · rename_i d u ha
    intro y hy hs
    refine call_data (dep := 1000) (E := (E128 L N)) (rs := (.one (.st 0))) (v' := (.tv (.st 0) y)) (sound_of hΦ) okP (callI_sound (sound_of hΦ) okP 1 2000) (f := Try.f128) rfl hs ha ?_ site
    refine (f128.b_eq L N some d.1).trans ?_
    refine ((f128.b_nat (fun y => (some (.tv (.st 0) y) : Option AV)) L N some d.1)).trans ?_
    rw [show f128.b L N some d.1 = some y from hy]
    rfl
  · intro y hy
    cases hy
def Φ128 (L N : Nat) : Tells := (addT (Φ15 L N) 128 (f128.ent L N))
theorem Φ128_ok (L N : Nat) : TellsOk Try.prog (Φ128 L N) := addT_ok (Φ15_ok L N) (f128.ok L N (Φ15_ok L N))
def f100.s0' {R : Type} (L N : Nat) (k0_e0 : (List Move) → Option R) (rec0 : (List Move) → Int → (List Move) → Option R) (s0 : (List Move)) (s1 : Int) (s2 : (List Move)) : Option R :=
  bif (decide (s1 < (s0.length : Int))) then
    bif (decide (0 ≤ s1) && decide (s1 < (s0.length : Int))) then
      (f128 L N (listAt s0 (Ty.dflt (.st 0)) s1.toNat)).bind fun y4 =>
      bif (decide (0 ≤ s1) && decide (s1 < (s2.length : Int))) then
        rec0 s0 (wi (s1 + (1 : Int))) (s2.set s1.toNat y4)
      else none
    else none
  else k0_e0 s2
def f100.s0 {R : Type} (L N : Nat) (k0_e0 : (List Move) → Option R) (rec0 : (List Move) → Int → (List Move) → Option R) (s0 : (List Move)) (s1 : Int) (s2 : (List Move)) : Option R :=
  f100.s0' L N k0_e0 rec0 s0 s1 s2
def f100.l0 {R : Type} (L N : Nat) (k0_e0 : (List Move) → Option R) : Nat → (List Move) → Int → (List Move) → Option R
  | 0, _, _, _ => none
  | n + 1, s0, s1, s2 => f100.s0 L N k0_e0 (f100.l0 L N k0_e0 n) s0 s1 s2
def f100.T0 (s0 : (List Move)) (s1 : Int) (s2 : (List Move)) : T := mkT 23 [(0, (.tv (.sl (.st 0)) s0)), (3, (.row 1007)), (4, (.tv i64 s1))]
def f100.H0 (s0 : (List Move)) (s1 : Int) (s2 : (List Move)) : H := [(1007, (.row 53 (.st 0) s2))]
def f100.T0_e0 (z3 : (List Move)) : T := mkT 23 [(3, (.row 1007))]
def f100.H0_e0 (z3 : (List Move)) : H := [(1007, (.row 53 (.st 0) z3))]
def f100.p0_e0' {R : Type} (L N : Nat) (k : (List Move) → Option R) (z3 : (List Move)) : Option R :=
  k z3
def f100.p0_e0 {R : Type} (L N : Nat) (k : (List Move) → Option R) (z3 : (List Move)) : Option R :=
  f100.p0_e0' L N k z3
def f100.b' {R : Type} (L N : Nat) (k : (List Move) → Option R) (w0 : (List Move) → Int → (List Move) → Option R) (x0 : (List Move)) : Option R :=
  bif (decide (0 ≤ (x0.length : Int)) && decide ((x0.length : Int) ≤ (lim : Int))) then
    w0 x0 (0 : Int) (List.replicate (x0.length : Int).toNat (Ty.dflt (.st 0)))
  else none
def f100.b {R : Type} (L N : Nat) (k : (List Move) → Option R) (x0 : (List Move)) : Option R :=
  f100.b' L N k (fun s0 s1 s2 => f100.l0 L N (fun z3 => f100.p0_e0 L N k z3) L s0 s1 s2) x0
def f100 (L N : Nat) (x0 : (List Move)) : Option ((List Move)) := f100.b L N some x0
def f100.ent (L N : Nat) (args : List AV) (vw : View) (site : Nat) : Ans := match roD [(.sl (.st 0))] vw args with
  | some d => ⟨(List Move), f100 L N d.1, fun y => (RN.av site .row (), [(site, some (mkO none 53 (.st 0) y))], [])⟩
  | none => Ans.no
noncomputable def E100 (L N : Nat) : Env := { P := Try.prog, ty := tyOf, Φ := (Φ128 L N), inl := inlT, live := lives, liveX := livesX, L := L, dp := none, prom := promT, heal := healT, ren := renT }
noncomputable def f100.c0 : Code := loopAt 0 (codeOf Try.f100)
theorem f100.s0_pre {R : Type} (L N : Nat) (κ : Ex → T → H → Option R) (rec : T → H → Option R) (s0 : (List Move)) (s1 : Int) (s2 : (List Move)) :
    evRd (E100 L N) (evCallI (E100 L N) 1 2000) 1000 100 23 0 f100.c0 κ rec (f100.T0 s0 s1 s2) (f100.H0 s0 s1 s2)
    = f100.s0' L N (fun z3 => κ (.exit 0) (f100.T0_e0 z3) (f100.H0_e0 z3)) (fun s0 s1 s2 => rec (f100.T0 s0 s1 s2) (f100.H0 s0 s1 s2)) s0 s1 s2 := by kernel_rfl
theorem f100.s0_eq {R : Type} (L N : Nat) (κ : Ex → T → H → Option R) (rec : T → H → Option R) (s0 : (List Move)) (s1 : Int) (s2 : (List Move)) :
    evRd (E100 L N) (evCallI (E100 L N) 1 2000) 1000 100 23 0 f100.c0 κ rec (f100.T0 s0 s1 s2) (f100.H0 s0 s1 s2)
    = f100.s0 L N (fun z3 => κ (.exit 0) (f100.T0_e0 z3) (f100.H0_e0 z3)) (fun s0 s1 s2 => rec (f100.T0 s0 s1 s2) (f100.H0 s0 s1 s2)) s0 s1 s2 := by
  rw [f100.s0_pre]
  unfold f100.s0
  rfl
theorem f100.l0_eq {R : Type} (L N : Nat) (κ : Ex → T → H → Option R) : ∀ (n : Nat) (s0 : (List Move)) (s1 : Int) (s2 : (List Move)),
    evLp (E100 L N) (evCallI (E100 L N) 1 2000) 1000 100 23 0 f100.c0 κ n (f100.T0 s0 s1 s2) (f100.H0 s0 s1 s2)
    = f100.l0 L N (fun z3 => κ (.exit 0) (f100.T0_e0 z3) (f100.H0_e0 z3)) n s0 s1 s2 := by
  intro n
  induction n with
  | zero => intros; rfl
  | succ n ih =>
    intro s0 s1 s2
    rw [evLp_succ, f100.s0_eq]
    simp only [ih]
    rfl
theorem f100.p0_e0_pre {R : Type} (L N : Nat) (κ : RN.Den .row → List Move → Option R) (z3 : (List Move)) :
    (contAt (E100 L N) (evCallI (E100 L N) 1 2000) 1000 100 23 0 (codeOf Try.f100) (finK (E100 L N) 1000 Try.f100 (finN .row none 53 (.st 0) κ))) (.exit 0) (f100.T0_e0 z3) (f100.H0_e0 z3)
    = f100.p0_e0' L N (fun a0 => κ () a0) z3 := by kernel_rfl
theorem f100.p0_e0_eq {R : Type} (L N : Nat) (κ : RN.Den .row → List Move → Option R) (z3 : (List Move)) :
    (contAt (E100 L N) (evCallI (E100 L N) 1 2000) 1000 100 23 0 (codeOf Try.f100) (finK (E100 L N) 1000 Try.f100 (finN .row none 53 (.st 0) κ))) (.exit 0) (f100.T0_e0 z3) (f100.H0_e0 z3)
    = f100.p0_e0 L N (fun a0 => κ () a0) z3 := by
  rw [f100.p0_e0_pre]
  unfold f100.p0_e0
  rfl
theorem f100.b_pre {R : Type} (L N : Nat) (κ : RN.Den .row → List Move → Option R) (x0 : (List Move)) :
    evBody (E100 L N) (evCallI (E100 L N) 1 2000) 1000 100 Try.f100 [(.tv (.sl (.st 0)) x0)] [] [] (finN .row none 53 (.st 0) κ)
    = f100.b' L N (fun a0 => κ () a0) (fun s0 s1 s2 => evLp (E100 L N) (evCallI (E100 L N) 1 2000) 1000 100 23 0 f100.c0 (contAt (E100 L N) (evCallI (E100 L N) 1 2000) 1000 100 23 0 (codeOf Try.f100) (finK (E100 L N) 1000 Try.f100 (finN .row none 53 (.st 0) κ))) L (f100.T0 s0 s1 s2) (f100.H0 s0 s1 s2)) x0 := by kernel_rfl
theorem f100.b_eq {R : Type} (L N : Nat) (κ : RN.Den .row → List Move → Option R) (x0 : (List Move)) :
    evBody (E100 L N) (evCallI (E100 L N) 1 2000) 1000 100 Try.f100 [(.tv (.sl (.st 0)) x0)] [] [] (finN .row none 53 (.st 0) κ)
    = f100.b L N (fun a0 => κ () a0) x0 := by
  rw [f100.b_pre]
  unfold f100.b
  simp only [f100.l0_eq, f100.p0_e0_eq]
theorem f100.s0'_nat {R R' : Type} (j : R → Option R') (L N : Nat) (k0_e0 : (List Move) → Option R) (rec0 : (List Move) → Int → (List Move) → Option R) (s0 : (List Move)) (s1 : Int) (s2 : (List Move)) :
    f100.s0' L N (fun a0 => (k0_e0 a0).bind j) (fun a0 a1 a2 => (rec0 a0 a1 a2).bind j) s0 s1 s2 = (f100.s0' L N k0_e0 rec0 s0 s1 s2).bind j := by
  unfold f100.s0'
  repeat' (first | (with_reducible refine cond_nat ?_ ?_) | (with_reducible refine bind_nat fun _ => ?_) | rfl)
theorem f100.s0_nat {R R' : Type} (j : R → Option R') (L N : Nat) (k0_e0 : (List Move) → Option R) (rec0 : (List Move) → Int → (List Move) → Option R) (s0 : (List Move)) (s1 : Int) (s2 : (List Move)) :
    f100.s0 L N (fun a0 => (k0_e0 a0).bind j) (fun a0 a1 a2 => (rec0 a0 a1 a2).bind j) s0 s1 s2 = (f100.s0 L N k0_e0 rec0 s0 s1 s2).bind j := by
  unfold f100.s0
  exact f100.s0'_nat ..
theorem f100.l0_nat {R R' : Type} (j : R → Option R') (L N : Nat) (k0_e0 : (List Move) → Option R) : ∀ (n : Nat) (s0 : (List Move)) (s1 : Int) (s2 : (List Move)),
    f100.l0 L N (fun a0 => (k0_e0 a0).bind j) n s0 s1 s2 = (f100.l0 L N k0_e0 n s0 s1 s2).bind j := by
  intro n
  induction n with
  | zero => intros; rfl
  | succ n ih =>
    intro s0 s1 s2
    show f100.s0 L N (fun a0 => (k0_e0 a0).bind j) (f100.l0 L N (fun a0 => (k0_e0 a0).bind j) n) s0 s1 s2 = _
    rw [show f100.l0 L N (fun a0 => (k0_e0 a0).bind j) n = (fun s0 s1 s2 => (f100.l0 L N k0_e0 n s0 s1 s2).bind j) from funext fun s0 => funext fun s1 => funext fun s2 => ih s0 s1 s2]
    exact f100.s0_nat ..
theorem f100.p0_e0'_nat {R R' : Type} (j : R → Option R') (L N : Nat) (k : (List Move) → Option R) (z3 : (List Move)) :
    f100.p0_e0' L N (fun a0 => (k a0).bind j) z3 = (f100.p0_e0' L N k z3).bind j := by
  unfold f100.p0_e0'
  repeat' (first | (with_reducible refine cond_nat ?_ ?_) | (with_reducible refine bind_nat fun _ => ?_) | rfl)
theorem f100.p0_e0_nat {R R' : Type} (j : R → Option R') (L N : Nat) (k : (List Move) → Option R) (z3 : (List Move)) :
    f100.p0_e0 L N (fun a0 => (k a0).bind j) z3 = (f100.p0_e0 L N k z3).bind j := by
  unfold f100.p0_e0
  exact f100.p0_e0'_nat ..
theorem f100.b'_nat {R R' : Type} (j : R → Option R') (L N : Nat) (k : (List Move) → Option R) (w0 : (List Move) → Int → (List Move) → Option R) (x0 : (List Move)) :
    f100.b' L N (fun a0 => (k a0).bind j) (fun a0 a1 a2 => (w0 a0 a1 a2).bind j) x0 = (f100.b' L N k w0 x0).bind j := by
  unfold f100.b'
  repeat' (first | (with_reducible refine cond_nat ?_ ?_) | (with_reducible refine bind_nat fun _ => ?_) | rfl)
theorem f100.b_nat {R R' : Type} (j : R → Option R') (L N : Nat) (k : (List Move) → Option R) (x0 : (List Move)) :
    f100.b L N (fun a0 => (k a0).bind j) x0 = (f100.b L N k x0).bind j := by
  unfold f100.b
  simp only [f100.l0_nat, f100.p0_e0_nat]
  exact f100.b'_nat ..
theorem f100.ok (L N : Nat) (hΦ : TellsOk Try.prog ((Φ128 L N))) : EntOk Try.prog 100 (f100.ent L N) := by
  intro args vw site h
  unfold f100.ent
  split
  · rename_i d ha
    intro y hy hs
    refine call_ron (dep := 1000) (E := (E100 L N)) (ts := [(.sl (.st 0))]) (rn := .row) (q := none) (el := 53) (ty := (.st 0)) (d1 := ()) (xs := y) (sound_of hΦ) okP (callI_sound (sound_of hΦ) okP 1 2000) (f := Try.f100) rfl hs ha ?_ rfl site
    refine (f100.b_eq L N (fun d xs => some (d, xs)) d.1).trans ?_
    refine ((f100.b_nat (fun y => (some ((), y) : Option (RN.Den .row × List Move))) L N some d.1)).trans ?_
    rw [show f100.b L N some d.1 = some y from hy]
    rfl
  · intro y hy
    cases hy
def Φ100 (L N : Nat) : Tells := (addT (Φ128 L N) 100 (f100.ent L N))
theorem Φ100_ok (L N : Nat) : TellsOk Try.prog (Φ100 L N) := addT_ok (Φ128_ok L N) (f100.ok L N (Φ128_ok L N))
def f61.s0' {R : Type} (L N : Nat) (k0_e0 : (List (List Move)) → Option R) (rec0 : (List (List Move)) → Int → (List (List Move)) → Option R) (s0 : (List (List Move))) (s1 : Int) (s2 : (List (List Move))) : Option R :=
  bif (decide (s1 < (s0.length : Int))) then
    bif (decide (0 ≤ s1) && decide (s1 < (s0.length : Int))) then
      (f100 L N (listAt s0 [] s1.toNat)).bind fun y4 =>
      bif (decide (0 ≤ s1) && decide (s1 < (s2.length : Int))) then
        rec0 s0 (wi (s1 + (1 : Int))) (s2.set s1.toNat y4)
      else none
    else none
  else k0_e0 s2
def f61.s0 {R : Type} (L N : Nat) (k0_e0 : (List (List Move)) → Option R) (rec0 : (List (List Move)) → Int → (List (List Move)) → Option R) (s0 : (List (List Move))) (s1 : Int) (s2 : (List (List Move))) : Option R :=
  f61.s0' L N k0_e0 rec0 s0 s1 s2
def f61.l0 {R : Type} (L N : Nat) (k0_e0 : (List (List Move)) → Option R) : Nat → (List (List Move)) → Int → (List (List Move)) → Option R
  | 0, _, _, _ => none
  | n + 1, s0, s1, s2 => f61.s0 L N k0_e0 (f61.l0 L N k0_e0 n) s0 s1 s2
def f61.T0 (s0 : (List (List Move))) (s1 : Int) (s2 : (List (List Move))) : T := mkT 23 [(0, (.tv (.sl (.sl (.st 0))) s0)), (3, (.row 1007)), (4, (.tv i64 s1))]
def f61.H0 (s0 : (List (List Move))) (s1 : Int) (s2 : (List (List Move))) : H := [(1007, (.deep 0 (.sl (.st 0)) s2 none))]
def f61.T0_e0 (z3 : (List (List Move))) : T := mkT 23 [(3, (.row 1007))]
def f61.H0_e0 (z3 : (List (List Move))) : H := [(1007, (.deep 0 (.sl (.st 0)) z3 none))]
def f61.p0_e0' {R : Type} (L N : Nat) (k : (List (List Move)) → Option R) (z3 : (List (List Move))) : Option R :=
  k z3
def f61.p0_e0 {R : Type} (L N : Nat) (k : (List (List Move)) → Option R) (z3 : (List (List Move))) : Option R :=
  f61.p0_e0' L N k z3
def f61.b' {R : Type} (L N : Nat) (k : (List (List Move)) → Option R) (w0 : (List (List Move)) → Int → (List (List Move)) → Option R) (x0 : (List (List Move))) : Option R :=
  bif (decide (0 ≤ (x0.length : Int)) && decide ((x0.length : Int) ≤ (lim : Int))) then
    w0 x0 (0 : Int) (List.replicate (x0.length : Int).toNat [])
  else none
def f61.b {R : Type} (L N : Nat) (k : (List (List Move)) → Option R) (x0 : (List (List Move))) : Option R :=
  f61.b' L N k (fun s0 s1 s2 => f61.l0 L N (fun z3 => f61.p0_e0 L N k z3) L s0 s1 s2) x0
def f61 (L N : Nat) (x0 : (List (List Move))) : Option ((List (List Move))) := f61.b L N some x0
def f61.ent (L N : Nat) (args : List AV) (vw : View) (site : Nat) : Ans := match roD [(.sl (.sl (.st 0)))] vw args with
  | some d => ⟨(List (List Move)), f61 L N d.1, fun y => (RN.av site .row (), [(site, some (mkO (some 0) 51 (.sl (.st 0)) y))], [])⟩
  | none => Ans.no
noncomputable def E61 (L N : Nat) : Env := { P := Try.prog, ty := tyOf, Φ := (Φ100 L N), inl := inlT, live := lives, liveX := livesX, L := L, dp := (some 0), prom := promT, heal := healT, ren := renT }
noncomputable def f61.c0 : Code := loopAt 0 (codeOf Try.f61)
theorem f61.s0_pre {R : Type} (L N : Nat) (κ : Ex → T → H → Option R) (rec : T → H → Option R) (s0 : (List (List Move))) (s1 : Int) (s2 : (List (List Move))) :
    evRd (E61 L N) (evCallI (E61 L N) 1 2000) 1000 61 23 0 f61.c0 κ rec (f61.T0 s0 s1 s2) (f61.H0 s0 s1 s2)
    = f61.s0' L N (fun z3 => κ (.exit 0) (f61.T0_e0 z3) (f61.H0_e0 z3)) (fun s0 s1 s2 => rec (f61.T0 s0 s1 s2) (f61.H0 s0 s1 s2)) s0 s1 s2 := by kernel_rfl
theorem f61.s0_eq {R : Type} (L N : Nat) (κ : Ex → T → H → Option R) (rec : T → H → Option R) (s0 : (List (List Move))) (s1 : Int) (s2 : (List (List Move))) :
    evRd (E61 L N) (evCallI (E61 L N) 1 2000) 1000 61 23 0 f61.c0 κ rec (f61.T0 s0 s1 s2) (f61.H0 s0 s1 s2)
    = f61.s0 L N (fun z3 => κ (.exit 0) (f61.T0_e0 z3) (f61.H0_e0 z3)) (fun s0 s1 s2 => rec (f61.T0 s0 s1 s2) (f61.H0 s0 s1 s2)) s0 s1 s2 := by
  rw [f61.s0_pre]
  unfold f61.s0
  rfl
theorem f61.l0_eq {R : Type} (L N : Nat) (κ : Ex → T → H → Option R) : ∀ (n : Nat) (s0 : (List (List Move))) (s1 : Int) (s2 : (List (List Move))),
    evLp (E61 L N) (evCallI (E61 L N) 1 2000) 1000 61 23 0 f61.c0 κ n (f61.T0 s0 s1 s2) (f61.H0 s0 s1 s2)
    = f61.l0 L N (fun z3 => κ (.exit 0) (f61.T0_e0 z3) (f61.H0_e0 z3)) n s0 s1 s2 := by
  intro n
  induction n with
  | zero => intros; rfl
  | succ n ih =>
    intro s0 s1 s2
    rw [evLp_succ, f61.s0_eq]
    simp only [ih]
    rfl
theorem f61.p0_e0_pre {R : Type} (L N : Nat) (κ : RN.Den .row → List (List Move) → Option R) (z3 : (List (List Move))) :
    (contAt (E61 L N) (evCallI (E61 L N) 1 2000) 1000 61 23 0 (codeOf Try.f61) (finK (E61 L N) 1000 Try.f61 (finN .row (some 0) 51 (.sl (.st 0)) κ))) (.exit 0) (f61.T0_e0 z3) (f61.H0_e0 z3)
    = f61.p0_e0' L N (fun a0 => κ () a0) z3 := by kernel_rfl
theorem f61.p0_e0_eq {R : Type} (L N : Nat) (κ : RN.Den .row → List (List Move) → Option R) (z3 : (List (List Move))) :
    (contAt (E61 L N) (evCallI (E61 L N) 1 2000) 1000 61 23 0 (codeOf Try.f61) (finK (E61 L N) 1000 Try.f61 (finN .row (some 0) 51 (.sl (.st 0)) κ))) (.exit 0) (f61.T0_e0 z3) (f61.H0_e0 z3)
    = f61.p0_e0 L N (fun a0 => κ () a0) z3 := by
  rw [f61.p0_e0_pre]
  unfold f61.p0_e0
  rfl
theorem f61.b_pre {R : Type} (L N : Nat) (κ : RN.Den .row → List (List Move) → Option R) (x0 : (List (List Move))) :
    evBody (E61 L N) (evCallI (E61 L N) 1 2000) 1000 61 Try.f61 [(.tv (.sl (.sl (.st 0))) x0)] [] [] (finN .row (some 0) 51 (.sl (.st 0)) κ)
    = f61.b' L N (fun a0 => κ () a0) (fun s0 s1 s2 => evLp (E61 L N) (evCallI (E61 L N) 1 2000) 1000 61 23 0 f61.c0 (contAt (E61 L N) (evCallI (E61 L N) 1 2000) 1000 61 23 0 (codeOf Try.f61) (finK (E61 L N) 1000 Try.f61 (finN .row (some 0) 51 (.sl (.st 0)) κ))) L (f61.T0 s0 s1 s2) (f61.H0 s0 s1 s2)) x0 := by kernel_rfl
theorem f61.b_eq {R : Type} (L N : Nat) (κ : RN.Den .row → List (List Move) → Option R) (x0 : (List (List Move))) :
    evBody (E61 L N) (evCallI (E61 L N) 1 2000) 1000 61 Try.f61 [(.tv (.sl (.sl (.st 0))) x0)] [] [] (finN .row (some 0) 51 (.sl (.st 0)) κ)
    = f61.b L N (fun a0 => κ () a0) x0 := by
  rw [f61.b_pre]
  unfold f61.b
  simp only [f61.l0_eq, f61.p0_e0_eq]
theorem f61.s0'_nat {R R' : Type} (j : R → Option R') (L N : Nat) (k0_e0 : (List (List Move)) → Option R) (rec0 : (List (List Move)) → Int → (List (List Move)) → Option R) (s0 : (List (List Move))) (s1 : Int) (s2 : (List (List Move))) :
    f61.s0' L N (fun a0 => (k0_e0 a0).bind j) (fun a0 a1 a2 => (rec0 a0 a1 a2).bind j) s0 s1 s2 = (f61.s0' L N k0_e0 rec0 s0 s1 s2).bind j := by
  unfold f61.s0'
  repeat' (first | (with_reducible refine cond_nat ?_ ?_) | (with_reducible refine bind_nat fun _ => ?_) | rfl)
theorem f61.s0_nat {R R' : Type} (j : R → Option R') (L N : Nat) (k0_e0 : (List (List Move)) → Option R) (rec0 : (List (List Move)) → Int → (List (List Move)) → Option R) (s0 : (List (List Move))) (s1 : Int) (s2 : (List (List Move))) :
    f61.s0 L N (fun a0 => (k0_e0 a0).bind j) (fun a0 a1 a2 => (rec0 a0 a1 a2).bind j) s0 s1 s2 = (f61.s0 L N k0_e0 rec0 s0 s1 s2).bind j := by
  unfold f61.s0
  exact f61.s0'_nat ..
theorem f61.l0_nat {R R' : Type} (j : R → Option R') (L N : Nat) (k0_e0 : (List (List Move)) → Option R) : ∀ (n : Nat) (s0 : (List (List Move))) (s1 : Int) (s2 : (List (List Move))),
    f61.l0 L N (fun a0 => (k0_e0 a0).bind j) n s0 s1 s2 = (f61.l0 L N k0_e0 n s0 s1 s2).bind j := by
  intro n
  induction n with
  | zero => intros; rfl
  | succ n ih =>
    intro s0 s1 s2
    show f61.s0 L N (fun a0 => (k0_e0 a0).bind j) (f61.l0 L N (fun a0 => (k0_e0 a0).bind j) n) s0 s1 s2 = _
    rw [show f61.l0 L N (fun a0 => (k0_e0 a0).bind j) n = (fun s0 s1 s2 => (f61.l0 L N k0_e0 n s0 s1 s2).bind j) from funext fun s0 => funext fun s1 => funext fun s2 => ih s0 s1 s2]
    exact f61.s0_nat ..
theorem f61.p0_e0'_nat {R R' : Type} (j : R → Option R') (L N : Nat) (k : (List (List Move)) → Option R) (z3 : (List (List Move))) :
    f61.p0_e0' L N (fun a0 => (k a0).bind j) z3 = (f61.p0_e0' L N k z3).bind j := by
  unfold f61.p0_e0'
  repeat' (first | (with_reducible refine cond_nat ?_ ?_) | (with_reducible refine bind_nat fun _ => ?_) | rfl)
theorem f61.p0_e0_nat {R R' : Type} (j : R → Option R') (L N : Nat) (k : (List (List Move)) → Option R) (z3 : (List (List Move))) :
    f61.p0_e0 L N (fun a0 => (k a0).bind j) z3 = (f61.p0_e0 L N k z3).bind j := by
  unfold f61.p0_e0
  exact f61.p0_e0'_nat ..
theorem f61.b'_nat {R R' : Type} (j : R → Option R') (L N : Nat) (k : (List (List Move)) → Option R) (w0 : (List (List Move)) → Int → (List (List Move)) → Option R) (x0 : (List (List Move))) :
    f61.b' L N (fun a0 => (k a0).bind j) (fun a0 a1 a2 => (w0 a0 a1 a2).bind j) x0 = (f61.b' L N k w0 x0).bind j := by
  unfold f61.b'
  repeat' (first | (with_reducible refine cond_nat ?_ ?_) | (with_reducible refine bind_nat fun _ => ?_) | rfl)
theorem f61.b_nat {R R' : Type} (j : R → Option R') (L N : Nat) (k : (List (List Move)) → Option R) (x0 : (List (List Move))) :
    f61.b L N (fun a0 => (k a0).bind j) x0 = (f61.b L N k x0).bind j := by
  unfold f61.b
  simp only [f61.l0_nat, f61.p0_e0_nat]
  exact f61.b'_nat ..
theorem f61.ok (L N : Nat) (hΦ : TellsOk Try.prog ((Φ100 L N))) : EntOk Try.prog 61 (f61.ent L N) := by
  intro args vw site h
  unfold f61.ent
  split
  · rename_i d ha
    intro y hy hs
    refine call_ron (dep := 1000) (E := (E61 L N)) (ts := [(.sl (.sl (.st 0)))]) (rn := .row) (q := (some 0)) (el := 51) (ty := (.sl (.st 0))) (d1 := ()) (xs := y) (sound_of hΦ) okP (callI_sound (sound_of hΦ) okP 1 2000) (f := Try.f61) rfl hs ha ?_ rfl site
    refine (f61.b_eq L N (fun d xs => some (d, xs)) d.1).trans ?_
    refine ((f61.b_nat (fun y => (some ((), y) : Option (RN.Den .row × List (List Move)))) L N some d.1)).trans ?_
    rw [show f61.b L N some d.1 = some y from hy]
    rfl
  · intro y hy
    cases hy
def Φ61 (L N : Nat) : Tells := (addT (Φ100 L N) 61 (f61.ent L N))
theorem Φ61_ok (L N : Nat) : TellsOk Try.prog (Φ61 L N) := addT_ok (Φ100_ok L N) (f61.ok L N (Φ100_ok L N))
def f18.b' {R : Type} (L N : Nat) (k : (List (List Move)) → Option R) (x0 : Graph) : Option R :=
  (f61 L N x0.moves).bind fun y0 =>
  k y0
def f18.b {R : Type} (L N : Nat) (k : (List (List Move)) → Option R) (x0 : Graph) : Option R :=
  f18.b' L N k x0
def f18 (L N : Nat) (x0 : Graph) : Option ((List (List Move))) := f18.b L N some x0
def f18.ent (L N : Nat) (args : List AV) (vw : View) (site : Nat) : Ans := match roD [(.st 2)] vw args with
  | some d => ⟨(List (List Move)), f18 L N d.1, fun y => (RN.av site (.agg []) (()), [(site, some (mkO (some 0) 51 (.sl (.st 0)) y))], [])⟩
  | none => Ans.no
noncomputable def E18 (L N : Nat) : Env := { P := Try.prog, ty := tyOf, Φ := (Φ61 L N), inl := inlT, live := lives, liveX := livesX, L := L, dp := (some 0), prom := promT, heal := healT, ren := renT }
theorem f18.b_pre {R : Type} (L N : Nat) (κ : RN.Den (.agg []) → List (List Move) → Option R) (x0 : Graph) :
    evBody (E18 L N) (evCallI (E18 L N) 1 2000) 1000 18 Try.f18 [(.tv (.st 2) x0)] [] [] (finN (.agg []) (some 0) 51 (.sl (.st 0)) κ)
    = f18.b' L N (fun a0 => κ (()) a0) x0 := by kernel_rfl
theorem f18.b_eq {R : Type} (L N : Nat) (κ : RN.Den (.agg []) → List (List Move) → Option R) (x0 : Graph) :
    evBody (E18 L N) (evCallI (E18 L N) 1 2000) 1000 18 Try.f18 [(.tv (.st 2) x0)] [] [] (finN (.agg []) (some 0) 51 (.sl (.st 0)) κ)
    = f18.b L N (fun a0 => κ (()) a0) x0 := by
  rw [f18.b_pre]
  unfold f18.b
  rfl
theorem f18.b'_nat {R R' : Type} (j : R → Option R') (L N : Nat) (k : (List (List Move)) → Option R) (x0 : Graph) :
    f18.b' L N (fun a0 => (k a0).bind j) x0 = (f18.b' L N k x0).bind j := by
  unfold f18.b'
  repeat' (first | (with_reducible refine cond_nat ?_ ?_) | (with_reducible refine bind_nat fun _ => ?_) | rfl)
theorem f18.b_nat {R R' : Type} (j : R → Option R') (L N : Nat) (k : (List (List Move)) → Option R) (x0 : Graph) :
    f18.b L N (fun a0 => (k a0).bind j) x0 = (f18.b L N k x0).bind j := by
  unfold f18.b
  exact f18.b'_nat ..
theorem f18.ok (L N : Nat) (hΦ : TellsOk Try.prog ((Φ61 L N))) : EntOk Try.prog 18 (f18.ent L N) := by
  intro args vw site h
  unfold f18.ent
  split
  · rename_i d ha
    intro y hy hs
    refine call_ron (dep := 1000) (E := (E18 L N)) (ts := [(.st 2)]) (rn := (.agg [])) (q := (some 0)) (el := 51) (ty := (.sl (.st 0))) (d1 := (())) (xs := y) (sound_of hΦ) okP (callI_sound (sound_of hΦ) okP 1 2000) (f := Try.f18) rfl hs ha ?_ rfl site
    refine (f18.b_eq L N (fun d xs => some (d, xs)) d.1).trans ?_
    refine ((f18.b_nat (fun y => (some ((()), y) : Option (RN.Den (.agg []) × List (List Move)))) L N some d.1)).trans ?_
    rw [show f18.b L N some d.1 = some y from hy]
    rfl
  · intro y hy
    cases hy
def Φ18 (L N : Nat) : Tells := (addT (Φ61 L N) 18 (f18.ent L N))
theorem Φ18_ok (L N : Nat) : TellsOk Try.prog (Φ18 L N) := addT_ok (Φ61_ok L N) (f18.ok L N (Φ61_ok L N))
def f21.s0' {R : Type} (L N : Nat) (k0_e0 : Option R) (k0_r : Bool → Option R) (rec0 : (List Int) → (List Int) → Int → Option R) (s0 : (List Int)) (s1 : (List Int)) (s2 : Int) : Option R :=
  bif (decide (s2 < (s0.length : Int))) then
    bif (decide (0 ≤ s2) && decide (s2 < (s0.length : Int))) then
      bif (decide (0 ≤ s2) && decide (s2 < (s1.length : Int))) then
        bif ((listAt s0 (0 : Int) s2.toNat) != (listAt s1 (0 : Int) s2.toNat)) then
          k0_r false
        else rec0 s0 s1 (wi (s2 + (1 : Int)))
      else none
    else none
  else k0_e0
def f21.s0 {R : Type} (L N : Nat) (k0_e0 : Option R) (k0_r : Bool → Option R) (rec0 : (List Int) → (List Int) → Int → Option R) (s0 : (List Int)) (s1 : (List Int)) (s2 : Int) : Option R :=
  f21.s0' L N k0_e0 k0_r rec0 s0 s1 s2
def f21.l0 {R : Type} (L N : Nat) (k0_e0 : Option R) (k0_r : Bool → Option R) : Nat → (List Int) → (List Int) → Int → Option R
  | 0, _, _, _ => none
  | n + 1, s0, s1, s2 => f21.s0 L N k0_e0 k0_r (f21.l0 L N k0_e0 k0_r n) s0 s1 s2
def f21.T0 (s0 : (List Int)) (s1 : (List Int)) (s2 : Int) : T := mkT 26 [(0, (.tv (.sl i64) s0)), (1, (.tv (.sl i64) s1)), (5, (.tv i64 s2))]
def f21.H0 (s0 : (List Int)) (s1 : (List Int)) (s2 : Int) : H := []
def f21.T0_e0 : T := mkT 26 []
def f21.H0_e0 : H := []
def f21.T0_r (z3 : Bool) : T := mkT 26 [(4, (.tv .bool z3))]
def f21.H0_r (z3 : Bool) : H := []
def f21.p0_e0' {R : Type} (L N : Nat) (k : Bool → Option R) : Option R :=
  k true
def f21.p0_e0 {R : Type} (L N : Nat) (k : Bool → Option R) : Option R :=
  f21.p0_e0' L N k
def f21.p0_r' {R : Type} (L N : Nat) (k : Bool → Option R) (z3 : Bool) : Option R :=
  k z3
def f21.p0_r {R : Type} (L N : Nat) (k : Bool → Option R) (z3 : Bool) : Option R :=
  f21.p0_r' L N k z3
def f21.b' {R : Type} (L N : Nat) (k : Bool → Option R) (w0 : (List Int) → (List Int) → Int → Option R) (x0 : (List Int)) (x1 : (List Int)) : Option R :=
  bif ((x0.length : Int) != (x1.length : Int)) then
    k false
  else w0 x0 x1 (0 : Int)
def f21.b {R : Type} (L N : Nat) (k : Bool → Option R) (x0 : (List Int)) (x1 : (List Int)) : Option R :=
  f21.b' L N k (fun s0 s1 s2 => f21.l0 L N (f21.p0_e0 L N k) (fun z3 => f21.p0_r L N k z3) L s0 s1 s2) x0 x1
def f21 (L N : Nat) (x0 : (List Int)) (x1 : (List Int)) : Option (Bool) := f21.b L N some x0 x1
def f21.ent (L N : Nat) (args : List AV) (vw : View) (site : Nat) : Ans := match roD [(.sl i64), (.sl i64)] vw args with
  | some d => ⟨Bool, f21 L N d.1 d.2.1, fun y => ((.tv .bool y), [], [])⟩
  | none => Ans.no
noncomputable def E21 (L N : Nat) : Env := { P := Try.prog, ty := tyOf, Φ := (Φ18 L N), inl := inlT, live := lives, liveX := livesX, L := L, dp := none, prom := promT, heal := healT, ren := renT }
noncomputable def f21.c0 : Code := loopAt 0 (codeOf Try.f21)
theorem f21.s0_pre {R : Type} (L N : Nat) (κ : Ex → T → H → Option R) (rec : T → H → Option R) (s0 : (List Int)) (s1 : (List Int)) (s2 : Int) :
    evRd (E21 L N) (evCallI (E21 L N) 1 2000) 1000 21 26 0 f21.c0 κ rec (f21.T0 s0 s1 s2) (f21.H0 s0 s1 s2)
    = f21.s0' L N (κ (.exit 0) f21.T0_e0 f21.H0_e0) (fun z3 => κ .ret (f21.T0_r z3) (f21.H0_r z3)) (fun s0 s1 s2 => rec (f21.T0 s0 s1 s2) (f21.H0 s0 s1 s2)) s0 s1 s2 := by kernel_rfl
theorem f21.s0_eq {R : Type} (L N : Nat) (κ : Ex → T → H → Option R) (rec : T → H → Option R) (s0 : (List Int)) (s1 : (List Int)) (s2 : Int) :
    evRd (E21 L N) (evCallI (E21 L N) 1 2000) 1000 21 26 0 f21.c0 κ rec (f21.T0 s0 s1 s2) (f21.H0 s0 s1 s2)
    = f21.s0 L N (κ (.exit 0) f21.T0_e0 f21.H0_e0) (fun z3 => κ .ret (f21.T0_r z3) (f21.H0_r z3)) (fun s0 s1 s2 => rec (f21.T0 s0 s1 s2) (f21.H0 s0 s1 s2)) s0 s1 s2 := by
  rw [f21.s0_pre]
  unfold f21.s0
  rfl
theorem f21.l0_eq {R : Type} (L N : Nat) (κ : Ex → T → H → Option R) : ∀ (n : Nat) (s0 : (List Int)) (s1 : (List Int)) (s2 : Int),
    evLp (E21 L N) (evCallI (E21 L N) 1 2000) 1000 21 26 0 f21.c0 κ n (f21.T0 s0 s1 s2) (f21.H0 s0 s1 s2)
    = f21.l0 L N (κ (.exit 0) f21.T0_e0 f21.H0_e0) (fun z3 => κ .ret (f21.T0_r z3) (f21.H0_r z3)) n s0 s1 s2 := by
  intro n
  induction n with
  | zero => intros; rfl
  | succ n ih =>
    intro s0 s1 s2
    rw [evLp_succ, f21.s0_eq]
    simp only [ih]
    rfl
theorem f21.p0_e0_pre {R : Type} (L N : Nat) (κ : AV → Option R) :
    (contAt (E21 L N) (evCallI (E21 L N) 1 2000) 1000 21 26 0 (codeOf Try.f21) (finK (E21 L N) 1000 Try.f21 (finC (.one .bool) κ))) (.exit 0) f21.T0_e0 f21.H0_e0
    = f21.p0_e0' L N (fun a0 => κ (.tv .bool a0)) := by kernel_rfl
theorem f21.p0_e0_eq {R : Type} (L N : Nat) (κ : AV → Option R) :
    (contAt (E21 L N) (evCallI (E21 L N) 1 2000) 1000 21 26 0 (codeOf Try.f21) (finK (E21 L N) 1000 Try.f21 (finC (.one .bool) κ))) (.exit 0) f21.T0_e0 f21.H0_e0
    = f21.p0_e0 L N (fun a0 => κ (.tv .bool a0)) := by
  rw [f21.p0_e0_pre]
  unfold f21.p0_e0
  rfl
theorem f21.p0_r_pre {R : Type} (L N : Nat) (κ : AV → Option R) (z3 : Bool) :
    (contAt (E21 L N) (evCallI (E21 L N) 1 2000) 1000 21 26 0 (codeOf Try.f21) (finK (E21 L N) 1000 Try.f21 (finC (.one .bool) κ))) .ret (f21.T0_r z3) (f21.H0_r z3)
    = f21.p0_r' L N (fun a0 => κ (.tv .bool a0)) z3 := by kernel_rfl
theorem f21.p0_r_eq {R : Type} (L N : Nat) (κ : AV → Option R) (z3 : Bool) :
    (contAt (E21 L N) (evCallI (E21 L N) 1 2000) 1000 21 26 0 (codeOf Try.f21) (finK (E21 L N) 1000 Try.f21 (finC (.one .bool) κ))) .ret (f21.T0_r z3) (f21.H0_r z3)
    = f21.p0_r L N (fun a0 => κ (.tv .bool a0)) z3 := by
  rw [f21.p0_r_pre]
  unfold f21.p0_r
  rfl
theorem f21.b_pre {R : Type} (L N : Nat) (κ : AV → Option R) (x0 : (List Int)) (x1 : (List Int)) :
    evBody (E21 L N) (evCallI (E21 L N) 1 2000) 1000 21 Try.f21 [(.tv (.sl i64) x0), (.tv (.sl i64) x1)] [] [] (finC (.one .bool) κ)
    = f21.b' L N (fun a0 => κ (.tv .bool a0)) (fun s0 s1 s2 => evLp (E21 L N) (evCallI (E21 L N) 1 2000) 1000 21 26 0 f21.c0 (contAt (E21 L N) (evCallI (E21 L N) 1 2000) 1000 21 26 0 (codeOf Try.f21) (finK (E21 L N) 1000 Try.f21 (finC (.one .bool) κ))) L (f21.T0 s0 s1 s2) (f21.H0 s0 s1 s2)) x0 x1 := by kernel_rfl
theorem f21.b_eq {R : Type} (L N : Nat) (κ : AV → Option R) (x0 : (List Int)) (x1 : (List Int)) :
    evBody (E21 L N) (evCallI (E21 L N) 1 2000) 1000 21 Try.f21 [(.tv (.sl i64) x0), (.tv (.sl i64) x1)] [] [] (finC (.one .bool) κ)
    = f21.b L N (fun a0 => κ (.tv .bool a0)) x0 x1 := by
  rw [f21.b_pre]
  unfold f21.b
  simp only [f21.l0_eq, f21.p0_e0_eq, f21.p0_r_eq]
theorem f21.s0'_nat {R R' : Type} (j : R → Option R') (L N : Nat) (k0_e0 : Option R) (k0_r : Bool → Option R) (rec0 : (List Int) → (List Int) → Int → Option R) (s0 : (List Int)) (s1 : (List Int)) (s2 : Int) :
    f21.s0' L N (k0_e0.bind j) (fun a0 => (k0_r a0).bind j) (fun a0 a1 a2 => (rec0 a0 a1 a2).bind j) s0 s1 s2 = (f21.s0' L N k0_e0 k0_r rec0 s0 s1 s2).bind j := by
  unfold f21.s0'
  repeat' (first | (with_reducible refine cond_nat ?_ ?_) | (with_reducible refine bind_nat fun _ => ?_) | rfl)
theorem f21.s0_nat {R R' : Type} (j : R → Option R') (L N : Nat) (k0_e0 : Option R) (k0_r : Bool → Option R) (rec0 : (List Int) → (List Int) → Int → Option R) (s0 : (List Int)) (s1 : (List Int)) (s2 : Int) :
    f21.s0 L N (k0_e0.bind j) (fun a0 => (k0_r a0).bind j) (fun a0 a1 a2 => (rec0 a0 a1 a2).bind j) s0 s1 s2 = (f21.s0 L N k0_e0 k0_r rec0 s0 s1 s2).bind j := by
  unfold f21.s0
  exact f21.s0'_nat ..
theorem f21.l0_nat {R R' : Type} (j : R → Option R') (L N : Nat) (k0_e0 : Option R) (k0_r : Bool → Option R) : ∀ (n : Nat) (s0 : (List Int)) (s1 : (List Int)) (s2 : Int),
    f21.l0 L N (k0_e0.bind j) (fun a0 => (k0_r a0).bind j) n s0 s1 s2 = (f21.l0 L N k0_e0 k0_r n s0 s1 s2).bind j := by
  intro n
  induction n with
  | zero => intros; rfl
  | succ n ih =>
    intro s0 s1 s2
    show f21.s0 L N (k0_e0.bind j) (fun a0 => (k0_r a0).bind j) (f21.l0 L N (k0_e0.bind j) (fun a0 => (k0_r a0).bind j) n) s0 s1 s2 = _
    rw [show f21.l0 L N (k0_e0.bind j) (fun a0 => (k0_r a0).bind j) n = (fun s0 s1 s2 => (f21.l0 L N k0_e0 k0_r n s0 s1 s2).bind j) from funext fun s0 => funext fun s1 => funext fun s2 => ih s0 s1 s2]
    exact f21.s0_nat ..
theorem f21.p0_e0'_nat {R R' : Type} (j : R → Option R') (L N : Nat) (k : Bool → Option R) :
    f21.p0_e0' L N (fun a0 => (k a0).bind j) = (f21.p0_e0' L N k).bind j := by
  unfold f21.p0_e0'
  repeat' (first | (with_reducible refine cond_nat ?_ ?_) | (with_reducible refine bind_nat fun _ => ?_) | rfl)
theorem f21.p0_e0_nat {R R' : Type} (j : R → Option R') (L N : Nat) (k : Bool → Option R) :
    f21.p0_e0 L N (fun a0 => (k a0).bind j) = (f21.p0_e0 L N k).bind j := by
  unfold f21.p0_e0
  exact f21.p0_e0'_nat ..
theorem f21.p0_r'_nat {R R' : Type} (j : R → Option R') (L N : Nat) (k : Bool → Option R) (z3 : Bool) :
    f21.p0_r' L N (fun a0 => (k a0).bind j) z3 = (f21.p0_r' L N k z3).bind j := by
  unfold f21.p0_r'
  repeat' (first | (with_reducible refine cond_nat ?_ ?_) | (with_reducible refine bind_nat fun _ => ?_) | rfl)
theorem f21.p0_r_nat {R R' : Type} (j : R → Option R') (L N : Nat) (k : Bool → Option R) (z3 : Bool) :
    f21.p0_r L N (fun a0 => (k a0).bind j) z3 = (f21.p0_r L N k z3).bind j := by
  unfold f21.p0_r
  exact f21.p0_r'_nat ..
theorem f21.b'_nat {R R' : Type} (j : R → Option R') (L N : Nat) (k : Bool → Option R) (w0 : (List Int) → (List Int) → Int → Option R) (x0 : (List Int)) (x1 : (List Int)) :
    f21.b' L N (fun a0 => (k a0).bind j) (fun a0 a1 a2 => (w0 a0 a1 a2).bind j) x0 x1 = (f21.b' L N k w0 x0 x1).bind j := by
  unfold f21.b'
  repeat' (first | (with_reducible refine cond_nat ?_ ?_) | (with_reducible refine bind_nat fun _ => ?_) | rfl)
theorem f21.b_nat {R R' : Type} (j : R → Option R') (L N : Nat) (k : Bool → Option R) (x0 : (List Int)) (x1 : (List Int)) :
    f21.b L N (fun a0 => (k a0).bind j) x0 x1 = (f21.b L N k x0 x1).bind j := by
  unfold f21.b
  simp only [f21.l0_nat, f21.p0_e0_nat, f21.p0_r_nat]
  exact f21.b'_nat ..
theorem f21.ok (L N : Nat) (hΦ : TellsOk Try.prog ((Φ18 L N))) : EntOk Try.prog 21 (f21.ent L N) := by
  intro args vw site h
  unfold f21.ent
  split
  · rename_i d ha
    intro y hy hs
    refine call_ro (dep := 1000) (E := (E21 L N)) (rs := (.one .bool)) (v := (.tv .bool y)) (sound_of hΦ) okP (callI_sound (sound_of hΦ) okP 1 2000) (f := Try.f21) rfl hs ha ?_ rfl site
    refine (f21.b_eq L N some d.1 d.2.1).trans ?_
    refine ((f21.b_nat (fun y => (some (.tv .bool y) : Option AV)) L N some d.1 d.2.1)).trans ?_
    rw [show f21.b L N some d.1 d.2.1 = some y from hy]
    rfl
  · intro y hy
    cases hy
def Φ21 (L N : Nat) : Tells := (addT (Φ18 L N) 21 (f21.ent L N))
theorem Φ21_ok (L N : Nat) : TellsOk Try.prog (Φ21 L N) := addT_ok (Φ18_ok L N) (f21.ok L N (Φ18_ok L N))
def f129.b' {R : Type} (L N : Nat) (k : Bool → Option R) (x0 : Move) (x1 : Move) : Option R :=
  bif (x0.act != x1.act) then
    k false
  else bif (x0.to != x1.to) then
    k false
  else k true
def f129.b {R : Type} (L N : Nat) (k : Bool → Option R) (x0 : Move) (x1 : Move) : Option R :=
  f129.b' L N k x0 x1
def f129 (L N : Nat) (x0 : Move) (x1 : Move) : Option (Bool) := f129.b L N some x0 x1
def f129.ent (L N : Nat) (args : List AV) (vw : View) (site : Nat) : Ans := match roD [(.st 0), (.st 0)] vw args with
  | some d => ⟨Bool, f129 L N d.1 d.2.1, fun y => ((.tv .bool y), [], [])⟩
  | none => Ans.no
noncomputable def E129 (L N : Nat) : Env := { P := Try.prog, ty := tyOf, Φ := (Φ21 L N), inl := inlT, live := lives, liveX := livesX, L := L, dp := none, prom := promT, heal := healT, ren := renT }
theorem f129.b_pre {R : Type} (L N : Nat) (κ : AV → Option R) (x0 : Move) (x1 : Move) :
    evBody (E129 L N) (evCallI (E129 L N) 1 2000) 1000 129 Try.f129 [(.tv (.st 0) x0), (.tv (.st 0) x1)] [] [] (finC (.one .bool) κ)
    = f129.b' L N (fun a0 => κ (.tv .bool a0)) x0 x1 := by kernel_rfl
theorem f129.b_eq {R : Type} (L N : Nat) (κ : AV → Option R) (x0 : Move) (x1 : Move) :
    evBody (E129 L N) (evCallI (E129 L N) 1 2000) 1000 129 Try.f129 [(.tv (.st 0) x0), (.tv (.st 0) x1)] [] [] (finC (.one .bool) κ)
    = f129.b L N (fun a0 => κ (.tv .bool a0)) x0 x1 := by
  rw [f129.b_pre]
  unfold f129.b
  rfl
theorem f129.b'_nat {R R' : Type} (j : R → Option R') (L N : Nat) (k : Bool → Option R) (x0 : Move) (x1 : Move) :
    f129.b' L N (fun a0 => (k a0).bind j) x0 x1 = (f129.b' L N k x0 x1).bind j := by
  unfold f129.b'
  repeat' (first | (with_reducible refine cond_nat ?_ ?_) | (with_reducible refine bind_nat fun _ => ?_) | rfl)
theorem f129.b_nat {R R' : Type} (j : R → Option R') (L N : Nat) (k : Bool → Option R) (x0 : Move) (x1 : Move) :
    f129.b L N (fun a0 => (k a0).bind j) x0 x1 = (f129.b L N k x0 x1).bind j := by
  unfold f129.b
  exact f129.b'_nat ..
theorem f129.ok (L N : Nat) (hΦ : TellsOk Try.prog ((Φ21 L N))) : EntOk Try.prog 129 (f129.ent L N) := by
  intro args vw site h
  unfold f129.ent
  split
  · rename_i d ha
    intro y hy hs
    refine call_ro (dep := 1000) (E := (E129 L N)) (rs := (.one .bool)) (v := (.tv .bool y)) (sound_of hΦ) okP (callI_sound (sound_of hΦ) okP 1 2000) (f := Try.f129) rfl hs ha ?_ rfl site
    refine (f129.b_eq L N some d.1 d.2.1).trans ?_
    refine ((f129.b_nat (fun y => (some (.tv .bool y) : Option AV)) L N some d.1 d.2.1)).trans ?_
    rw [show f129.b L N some d.1 d.2.1 = some y from hy]
    rfl
  · intro y hy
    cases hy
def Φ129 (L N : Nat) : Tells := (addT (Φ21 L N) 129 (f129.ent L N))
theorem Φ129_ok (L N : Nat) : TellsOk Try.prog (Φ129 L N) := addT_ok (Φ21_ok L N) (f129.ok L N (Φ21_ok L N))
def f101.s0' {R : Type} (L N : Nat) (k0_e0 : Option R) (k0_r : Bool → Option R) (rec0 : (List Move) → (List Move) → Int → Option R) (s0 : (List Move)) (s1 : (List Move)) (s2 : Int) : Option R :=
  bif (decide (s2 < (s0.length : Int))) then
    bif (decide (0 ≤ s2) && decide (s2 < (s0.length : Int))) then
      bif (decide (0 ≤ s2) && decide (s2 < (s1.length : Int))) then
        (f129 L N (listAt s0 (Ty.dflt (.st 0)) s2.toNat) (listAt s1 (Ty.dflt (.st 0)) s2.toNat)).bind fun y3 =>
        bif (!y3) then
          k0_r false
        else rec0 s0 s1 (wi (s2 + (1 : Int)))
      else none
    else none
  else k0_e0
def f101.s0 {R : Type} (L N : Nat) (k0_e0 : Option R) (k0_r : Bool → Option R) (rec0 : (List Move) → (List Move) → Int → Option R) (s0 : (List Move)) (s1 : (List Move)) (s2 : Int) : Option R :=
  f101.s0' L N k0_e0 k0_r rec0 s0 s1 s2
def f101.l0 {R : Type} (L N : Nat) (k0_e0 : Option R) (k0_r : Bool → Option R) : Nat → (List Move) → (List Move) → Int → Option R
  | 0, _, _, _ => none
  | n + 1, s0, s1, s2 => f101.s0 L N k0_e0 k0_r (f101.l0 L N k0_e0 k0_r n) s0 s1 s2
def f101.T0 (s0 : (List Move)) (s1 : (List Move)) (s2 : Int) : T := mkT 27 [(0, (.tv (.sl (.st 0)) s0)), (1, (.tv (.sl (.st 0)) s1)), (5, (.tv i64 s2))]
def f101.H0 (s0 : (List Move)) (s1 : (List Move)) (s2 : Int) : H := []
def f101.T0_e0 : T := mkT 27 []
def f101.H0_e0 : H := []
def f101.T0_r (z4 : Bool) : T := mkT 27 [(4, (.tv .bool z4))]
def f101.H0_r (z4 : Bool) : H := []
def f101.p0_e0' {R : Type} (L N : Nat) (k : Bool → Option R) : Option R :=
  k true
def f101.p0_e0 {R : Type} (L N : Nat) (k : Bool → Option R) : Option R :=
  f101.p0_e0' L N k
def f101.p0_r' {R : Type} (L N : Nat) (k : Bool → Option R) (z4 : Bool) : Option R :=
  k z4
def f101.p0_r {R : Type} (L N : Nat) (k : Bool → Option R) (z4 : Bool) : Option R :=
  f101.p0_r' L N k z4
def f101.b' {R : Type} (L N : Nat) (k : Bool → Option R) (w0 : (List Move) → (List Move) → Int → Option R) (x0 : (List Move)) (x1 : (List Move)) : Option R :=
  bif ((x0.length : Int) != (x1.length : Int)) then
    k false
  else w0 x0 x1 (0 : Int)
def f101.b {R : Type} (L N : Nat) (k : Bool → Option R) (x0 : (List Move)) (x1 : (List Move)) : Option R :=
  f101.b' L N k (fun s0 s1 s2 => f101.l0 L N (f101.p0_e0 L N k) (fun z4 => f101.p0_r L N k z4) L s0 s1 s2) x0 x1
def f101 (L N : Nat) (x0 : (List Move)) (x1 : (List Move)) : Option (Bool) := f101.b L N some x0 x1
def f101.ent (L N : Nat) (args : List AV) (vw : View) (site : Nat) : Ans := match roD [(.sl (.st 0)), (.sl (.st 0))] vw args with
  | some d => ⟨Bool, f101 L N d.1 d.2.1, fun y => ((.tv .bool y), [], [])⟩
  | none => Ans.no
noncomputable def E101 (L N : Nat) : Env := { P := Try.prog, ty := tyOf, Φ := (Φ129 L N), inl := inlT, live := lives, liveX := livesX, L := L, dp := none, prom := promT, heal := healT, ren := renT }
noncomputable def f101.c0 : Code := loopAt 0 (codeOf Try.f101)
theorem f101.s0_pre {R : Type} (L N : Nat) (κ : Ex → T → H → Option R) (rec : T → H → Option R) (s0 : (List Move)) (s1 : (List Move)) (s2 : Int) :
    evRd (E101 L N) (evCallI (E101 L N) 1 2000) 1000 101 27 0 f101.c0 κ rec (f101.T0 s0 s1 s2) (f101.H0 s0 s1 s2)
    = f101.s0' L N (κ (.exit 0) f101.T0_e0 f101.H0_e0) (fun z4 => κ .ret (f101.T0_r z4) (f101.H0_r z4)) (fun s0 s1 s2 => rec (f101.T0 s0 s1 s2) (f101.H0 s0 s1 s2)) s0 s1 s2 := by kernel_rfl
theorem f101.s0_eq {R : Type} (L N : Nat) (κ : Ex → T → H → Option R) (rec : T → H → Option R) (s0 : (List Move)) (s1 : (List Move)) (s2 : Int) :
    evRd (E101 L N) (evCallI (E101 L N) 1 2000) 1000 101 27 0 f101.c0 κ rec (f101.T0 s0 s1 s2) (f101.H0 s0 s1 s2)
    = f101.s0 L N (κ (.exit 0) f101.T0_e0 f101.H0_e0) (fun z4 => κ .ret (f101.T0_r z4) (f101.H0_r z4)) (fun s0 s1 s2 => rec (f101.T0 s0 s1 s2) (f101.H0 s0 s1 s2)) s0 s1 s2 := by
  rw [f101.s0_pre]
  unfold f101.s0
  rfl
theorem f101.l0_eq {R : Type} (L N : Nat) (κ : Ex → T → H → Option R) : ∀ (n : Nat) (s0 : (List Move)) (s1 : (List Move)) (s2 : Int),
    evLp (E101 L N) (evCallI (E101 L N) 1 2000) 1000 101 27 0 f101.c0 κ n (f101.T0 s0 s1 s2) (f101.H0 s0 s1 s2)
    = f101.l0 L N (κ (.exit 0) f101.T0_e0 f101.H0_e0) (fun z4 => κ .ret (f101.T0_r z4) (f101.H0_r z4)) n s0 s1 s2 := by
  intro n
  induction n with
  | zero => intros; rfl
  | succ n ih =>
    intro s0 s1 s2
    rw [evLp_succ, f101.s0_eq]
    simp only [ih]
    rfl
theorem f101.p0_e0_pre {R : Type} (L N : Nat) (κ : AV → Option R) :
    (contAt (E101 L N) (evCallI (E101 L N) 1 2000) 1000 101 27 0 (codeOf Try.f101) (finK (E101 L N) 1000 Try.f101 (finC (.one .bool) κ))) (.exit 0) f101.T0_e0 f101.H0_e0
    = f101.p0_e0' L N (fun a0 => κ (.tv .bool a0)) := by kernel_rfl
theorem f101.p0_e0_eq {R : Type} (L N : Nat) (κ : AV → Option R) :
    (contAt (E101 L N) (evCallI (E101 L N) 1 2000) 1000 101 27 0 (codeOf Try.f101) (finK (E101 L N) 1000 Try.f101 (finC (.one .bool) κ))) (.exit 0) f101.T0_e0 f101.H0_e0
    = f101.p0_e0 L N (fun a0 => κ (.tv .bool a0)) := by
  rw [f101.p0_e0_pre]
  unfold f101.p0_e0
  rfl
theorem f101.p0_r_pre {R : Type} (L N : Nat) (κ : AV → Option R) (z4 : Bool) :
    (contAt (E101 L N) (evCallI (E101 L N) 1 2000) 1000 101 27 0 (codeOf Try.f101) (finK (E101 L N) 1000 Try.f101 (finC (.one .bool) κ))) .ret (f101.T0_r z4) (f101.H0_r z4)
    = f101.p0_r' L N (fun a0 => κ (.tv .bool a0)) z4 := by kernel_rfl
theorem f101.p0_r_eq {R : Type} (L N : Nat) (κ : AV → Option R) (z4 : Bool) :
    (contAt (E101 L N) (evCallI (E101 L N) 1 2000) 1000 101 27 0 (codeOf Try.f101) (finK (E101 L N) 1000 Try.f101 (finC (.one .bool) κ))) .ret (f101.T0_r z4) (f101.H0_r z4)
    = f101.p0_r L N (fun a0 => κ (.tv .bool a0)) z4 := by
  rw [f101.p0_r_pre]
  unfold f101.p0_r
  rfl
theorem f101.b_pre {R : Type} (L N : Nat) (κ : AV → Option R) (x0 : (List Move)) (x1 : (List Move)) :
    evBody (E101 L N) (evCallI (E101 L N) 1 2000) 1000 101 Try.f101 [(.tv (.sl (.st 0)) x0), (.tv (.sl (.st 0)) x1)] [] [] (finC (.one .bool) κ)
    = f101.b' L N (fun a0 => κ (.tv .bool a0)) (fun s0 s1 s2 => evLp (E101 L N) (evCallI (E101 L N) 1 2000) 1000 101 27 0 f101.c0 (contAt (E101 L N) (evCallI (E101 L N) 1 2000) 1000 101 27 0 (codeOf Try.f101) (finK (E101 L N) 1000 Try.f101 (finC (.one .bool) κ))) L (f101.T0 s0 s1 s2) (f101.H0 s0 s1 s2)) x0 x1 := by kernel_rfl
theorem f101.b_eq {R : Type} (L N : Nat) (κ : AV → Option R) (x0 : (List Move)) (x1 : (List Move)) :
    evBody (E101 L N) (evCallI (E101 L N) 1 2000) 1000 101 Try.f101 [(.tv (.sl (.st 0)) x0), (.tv (.sl (.st 0)) x1)] [] [] (finC (.one .bool) κ)
    = f101.b L N (fun a0 => κ (.tv .bool a0)) x0 x1 := by
  rw [f101.b_pre]
  unfold f101.b
  simp only [f101.l0_eq, f101.p0_e0_eq, f101.p0_r_eq]
theorem f101.s0'_nat {R R' : Type} (j : R → Option R') (L N : Nat) (k0_e0 : Option R) (k0_r : Bool → Option R) (rec0 : (List Move) → (List Move) → Int → Option R) (s0 : (List Move)) (s1 : (List Move)) (s2 : Int) :
    f101.s0' L N (k0_e0.bind j) (fun a0 => (k0_r a0).bind j) (fun a0 a1 a2 => (rec0 a0 a1 a2).bind j) s0 s1 s2 = (f101.s0' L N k0_e0 k0_r rec0 s0 s1 s2).bind j := by
  unfold f101.s0'
  repeat' (first | (with_reducible refine cond_nat ?_ ?_) | (with_reducible refine bind_nat fun _ => ?_) | rfl)
theorem f101.s0_nat {R R' : Type} (j : R → Option R') (L N : Nat) (k0_e0 : Option R) (k0_r : Bool → Option R) (rec0 : (List Move) → (List Move) → Int → Option R) (s0 : (List Move)) (s1 : (List Move)) (s2 : Int) :
    f101.s0 L N (k0_e0.bind j) (fun a0 => (k0_r a0).bind j) (fun a0 a1 a2 => (rec0 a0 a1 a2).bind j) s0 s1 s2 = (f101.s0 L N k0_e0 k0_r rec0 s0 s1 s2).bind j := by
  unfold f101.s0
  exact f101.s0'_nat ..
theorem f101.l0_nat {R R' : Type} (j : R → Option R') (L N : Nat) (k0_e0 : Option R) (k0_r : Bool → Option R) : ∀ (n : Nat) (s0 : (List Move)) (s1 : (List Move)) (s2 : Int),
    f101.l0 L N (k0_e0.bind j) (fun a0 => (k0_r a0).bind j) n s0 s1 s2 = (f101.l0 L N k0_e0 k0_r n s0 s1 s2).bind j := by
  intro n
  induction n with
  | zero => intros; rfl
  | succ n ih =>
    intro s0 s1 s2
    show f101.s0 L N (k0_e0.bind j) (fun a0 => (k0_r a0).bind j) (f101.l0 L N (k0_e0.bind j) (fun a0 => (k0_r a0).bind j) n) s0 s1 s2 = _
    rw [show f101.l0 L N (k0_e0.bind j) (fun a0 => (k0_r a0).bind j) n = (fun s0 s1 s2 => (f101.l0 L N k0_e0 k0_r n s0 s1 s2).bind j) from funext fun s0 => funext fun s1 => funext fun s2 => ih s0 s1 s2]
    exact f101.s0_nat ..
theorem f101.p0_e0'_nat {R R' : Type} (j : R → Option R') (L N : Nat) (k : Bool → Option R) :
    f101.p0_e0' L N (fun a0 => (k a0).bind j) = (f101.p0_e0' L N k).bind j := by
  unfold f101.p0_e0'
  repeat' (first | (with_reducible refine cond_nat ?_ ?_) | (with_reducible refine bind_nat fun _ => ?_) | rfl)
theorem f101.p0_e0_nat {R R' : Type} (j : R → Option R') (L N : Nat) (k : Bool → Option R) :
    f101.p0_e0 L N (fun a0 => (k a0).bind j) = (f101.p0_e0 L N k).bind j := by
  unfold f101.p0_e0
  exact f101.p0_e0'_nat ..
theorem f101.p0_r'_nat {R R' : Type} (j : R → Option R') (L N : Nat) (k : Bool → Option R) (z4 : Bool) :
    f101.p0_r' L N (fun a0 => (k a0).bind j) z4 = (f101.p0_r' L N k z4).bind j := by
  unfold f101.p0_r'
  repeat' (first | (with_reducible refine cond_nat ?_ ?_) | (with_reducible refine bind_nat fun _ => ?_) | rfl)
theorem f101.p0_r_nat {R R' : Type} (j : R → Option R') (L N : Nat) (k : Bool → Option R) (z4 : Bool) :
    f101.p0_r L N (fun a0 => (k a0).bind j) z4 = (f101.p0_r L N k z4).bind j := by
  unfold f101.p0_r
  exact f101.p0_r'_nat ..
theorem f101.b'_nat {R R' : Type} (j : R → Option R') (L N : Nat) (k : Bool → Option R) (w0 : (List Move) → (List Move) → Int → Option R) (x0 : (List Move)) (x1 : (List Move)) :
    f101.b' L N (fun a0 => (k a0).bind j) (fun a0 a1 a2 => (w0 a0 a1 a2).bind j) x0 x1 = (f101.b' L N k w0 x0 x1).bind j := by
  unfold f101.b'
  repeat' (first | (with_reducible refine cond_nat ?_ ?_) | (with_reducible refine bind_nat fun _ => ?_) | rfl)
theorem f101.b_nat {R R' : Type} (j : R → Option R') (L N : Nat) (k : Bool → Option R) (x0 : (List Move)) (x1 : (List Move)) :
    f101.b L N (fun a0 => (k a0).bind j) x0 x1 = (f101.b L N k x0 x1).bind j := by
  unfold f101.b
  simp only [f101.l0_nat, f101.p0_e0_nat, f101.p0_r_nat]
  exact f101.b'_nat ..
theorem f101.ok (L N : Nat) (hΦ : TellsOk Try.prog ((Φ129 L N))) : EntOk Try.prog 101 (f101.ent L N) := by
  intro args vw site h
  unfold f101.ent
  split
  · rename_i d ha
    intro y hy hs
    refine call_ro (dep := 1000) (E := (E101 L N)) (rs := (.one .bool)) (v := (.tv .bool y)) (sound_of hΦ) okP (callI_sound (sound_of hΦ) okP 1 2000) (f := Try.f101) rfl hs ha ?_ rfl site
    refine (f101.b_eq L N some d.1 d.2.1).trans ?_
    refine ((f101.b_nat (fun y => (some (.tv .bool y) : Option AV)) L N some d.1 d.2.1)).trans ?_
    rw [show f101.b L N some d.1 d.2.1 = some y from hy]
    rfl
  · intro y hy
    cases hy
def Φ101 (L N : Nat) : Tells := (addT (Φ129 L N) 101 (f101.ent L N))
theorem Φ101_ok (L N : Nat) : TellsOk Try.prog (Φ101 L N) := addT_ok (Φ129_ok L N) (f101.ok L N (Φ129_ok L N))
def f64.s0' {R : Type} (L N : Nat) (k0_e0 : Option R) (k0_r : Bool → Option R) (rec0 : (List (List Move)) → (List (List Move)) → Int → Option R) (s0 : (List (List Move))) (s1 : (List (List Move))) (s2 : Int) : Option R :=
  bif (decide (s2 < (s0.length : Int))) then
    bif (decide (0 ≤ s2) && decide (s2 < (s0.length : Int))) then
      bif (decide (0 ≤ s2) && decide (s2 < (s1.length : Int))) then
        (f101 L N (listAt s0 [] s2.toNat) (listAt s1 [] s2.toNat)).bind fun y3 =>
        bif (!y3) then
          k0_r false
        else rec0 s0 s1 (wi (s2 + (1 : Int)))
      else none
    else none
  else k0_e0
def f64.s0 {R : Type} (L N : Nat) (k0_e0 : Option R) (k0_r : Bool → Option R) (rec0 : (List (List Move)) → (List (List Move)) → Int → Option R) (s0 : (List (List Move))) (s1 : (List (List Move))) (s2 : Int) : Option R :=
  f64.s0' L N k0_e0 k0_r rec0 s0 s1 s2
def f64.l0 {R : Type} (L N : Nat) (k0_e0 : Option R) (k0_r : Bool → Option R) : Nat → (List (List Move)) → (List (List Move)) → Int → Option R
  | 0, _, _, _ => none
  | n + 1, s0, s1, s2 => f64.s0 L N k0_e0 k0_r (f64.l0 L N k0_e0 k0_r n) s0 s1 s2
def f64.T0 (s0 : (List (List Move))) (s1 : (List (List Move))) (s2 : Int) : T := mkT 27 [(0, (.tv (.sl (.sl (.st 0))) s0)), (1, (.tv (.sl (.sl (.st 0))) s1)), (5, (.tv i64 s2))]
def f64.H0 (s0 : (List (List Move))) (s1 : (List (List Move))) (s2 : Int) : H := []
def f64.T0_e0 : T := mkT 27 []
def f64.H0_e0 : H := []
def f64.T0_r (z4 : Bool) : T := mkT 27 [(4, (.tv .bool z4))]
def f64.H0_r (z4 : Bool) : H := []
def f64.p0_e0' {R : Type} (L N : Nat) (k : Bool → Option R) : Option R :=
  k true
def f64.p0_e0 {R : Type} (L N : Nat) (k : Bool → Option R) : Option R :=
  f64.p0_e0' L N k
def f64.p0_r' {R : Type} (L N : Nat) (k : Bool → Option R) (z4 : Bool) : Option R :=
  k z4
def f64.p0_r {R : Type} (L N : Nat) (k : Bool → Option R) (z4 : Bool) : Option R :=
  f64.p0_r' L N k z4
def f64.b' {R : Type} (L N : Nat) (k : Bool → Option R) (w0 : (List (List Move)) → (List (List Move)) → Int → Option R) (x0 : (List (List Move))) (x1 : (List (List Move))) : Option R :=
  bif ((x0.length : Int) != (x1.length : Int)) then
    k false
  else w0 x0 x1 (0 : Int)
def f64.b {R : Type} (L N : Nat) (k : Bool → Option R) (x0 : (List (List Move))) (x1 : (List (List Move))) : Option R :=
  f64.b' L N k (fun s0 s1 s2 => f64.l0 L N (f64.p0_e0 L N k) (fun z4 => f64.p0_r L N k z4) L s0 s1 s2) x0 x1
def f64 (L N : Nat) (x0 : (List (List Move))) (x1 : (List (List Move))) : Option (Bool) := f64.b L N some x0 x1
def f64.ent (L N : Nat) (args : List AV) (vw : View) (site : Nat) : Ans := match roD [(.sl (.sl (.st 0))), (.sl (.sl (.st 0)))] vw args with
  | some d => ⟨Bool, f64 L N d.1 d.2.1, fun y => ((.tv .bool y), [], [])⟩
  | none => Ans.no
noncomputable def E64 (L N : Nat) : Env := { P := Try.prog, ty := tyOf, Φ := (Φ101 L N), inl := inlT, live := lives, liveX := livesX, L := L, dp := none, prom := promT, heal := healT, ren := renT }
noncomputable def f64.c0 : Code := loopAt 0 (codeOf Try.f64)
theorem f64.s0_pre {R : Type} (L N : Nat) (κ : Ex → T → H → Option R) (rec : T → H → Option R) (s0 : (List (List Move))) (s1 : (List (List Move))) (s2 : Int) :
    evRd (E64 L N) (evCallI (E64 L N) 1 2000) 1000 64 27 0 f64.c0 κ rec (f64.T0 s0 s1 s2) (f64.H0 s0 s1 s2)
    = f64.s0' L N (κ (.exit 0) f64.T0_e0 f64.H0_e0) (fun z4 => κ .ret (f64.T0_r z4) (f64.H0_r z4)) (fun s0 s1 s2 => rec (f64.T0 s0 s1 s2) (f64.H0 s0 s1 s2)) s0 s1 s2 := by kernel_rfl
theorem f64.s0_eq {R : Type} (L N : Nat) (κ : Ex → T → H → Option R) (rec : T → H → Option R) (s0 : (List (List Move))) (s1 : (List (List Move))) (s2 : Int) :
    evRd (E64 L N) (evCallI (E64 L N) 1 2000) 1000 64 27 0 f64.c0 κ rec (f64.T0 s0 s1 s2) (f64.H0 s0 s1 s2)
    = f64.s0 L N (κ (.exit 0) f64.T0_e0 f64.H0_e0) (fun z4 => κ .ret (f64.T0_r z4) (f64.H0_r z4)) (fun s0 s1 s2 => rec (f64.T0 s0 s1 s2) (f64.H0 s0 s1 s2)) s0 s1 s2 := by
  rw [f64.s0_pre]
  unfold f64.s0
  rfl
theorem f64.l0_eq {R : Type} (L N : Nat) (κ : Ex → T → H → Option R) : ∀ (n : Nat) (s0 : (List (List Move))) (s1 : (List (List Move))) (s2 : Int),
    evLp (E64 L N) (evCallI (E64 L N) 1 2000) 1000 64 27 0 f64.c0 κ n (f64.T0 s0 s1 s2) (f64.H0 s0 s1 s2)
    = f64.l0 L N (κ (.exit 0) f64.T0_e0 f64.H0_e0) (fun z4 => κ .ret (f64.T0_r z4) (f64.H0_r z4)) n s0 s1 s2 := by
  intro n
  induction n with
  | zero => intros; rfl
  | succ n ih =>
    intro s0 s1 s2
    rw [evLp_succ, f64.s0_eq]
    simp only [ih]
    rfl
theorem f64.p0_e0_pre {R : Type} (L N : Nat) (κ : AV → Option R) :
    (contAt (E64 L N) (evCallI (E64 L N) 1 2000) 1000 64 27 0 (codeOf Try.f64) (finK (E64 L N) 1000 Try.f64 (finC (.one .bool) κ))) (.exit 0) f64.T0_e0 f64.H0_e0
    = f64.p0_e0' L N (fun a0 => κ (.tv .bool a0)) := by kernel_rfl
theorem f64.p0_e0_eq {R : Type} (L N : Nat) (κ : AV → Option R) :
    (contAt (E64 L N) (evCallI (E64 L N) 1 2000) 1000 64 27 0 (codeOf Try.f64) (finK (E64 L N) 1000 Try.f64 (finC (.one .bool) κ))) (.exit 0) f64.T0_e0 f64.H0_e0
    = f64.p0_e0 L N (fun a0 => κ (.tv .bool a0)) := by
  rw [f64.p0_e0_pre]
  unfold f64.p0_e0
  rfl
theorem f64.p0_r_pre {R : Type} (L N : Nat) (κ : AV → Option R) (z4 : Bool) :
    (contAt (E64 L N) (evCallI (E64 L N) 1 2000) 1000 64 27 0 (codeOf Try.f64) (finK (E64 L N) 1000 Try.f64 (finC (.one .bool) κ))) .ret (f64.T0_r z4) (f64.H0_r z4)
    = f64.p0_r' L N (fun a0 => κ (.tv .bool a0)) z4 := by kernel_rfl
theorem f64.p0_r_eq {R : Type} (L N : Nat) (κ : AV → Option R) (z4 : Bool) :
    (contAt (E64 L N) (evCallI (E64 L N) 1 2000) 1000 64 27 0 (codeOf Try.f64) (finK (E64 L N) 1000 Try.f64 (finC (.one .bool) κ))) .ret (f64.T0_r z4) (f64.H0_r z4)
    = f64.p0_r L N (fun a0 => κ (.tv .bool a0)) z4 := by
  rw [f64.p0_r_pre]
  unfold f64.p0_r
  rfl
theorem f64.b_pre {R : Type} (L N : Nat) (κ : AV → Option R) (x0 : (List (List Move))) (x1 : (List (List Move))) :
    evBody (E64 L N) (evCallI (E64 L N) 1 2000) 1000 64 Try.f64 [(.tv (.sl (.sl (.st 0))) x0), (.tv (.sl (.sl (.st 0))) x1)] [] [] (finC (.one .bool) κ)
    = f64.b' L N (fun a0 => κ (.tv .bool a0)) (fun s0 s1 s2 => evLp (E64 L N) (evCallI (E64 L N) 1 2000) 1000 64 27 0 f64.c0 (contAt (E64 L N) (evCallI (E64 L N) 1 2000) 1000 64 27 0 (codeOf Try.f64) (finK (E64 L N) 1000 Try.f64 (finC (.one .bool) κ))) L (f64.T0 s0 s1 s2) (f64.H0 s0 s1 s2)) x0 x1 := by kernel_rfl
theorem f64.b_eq {R : Type} (L N : Nat) (κ : AV → Option R) (x0 : (List (List Move))) (x1 : (List (List Move))) :
    evBody (E64 L N) (evCallI (E64 L N) 1 2000) 1000 64 Try.f64 [(.tv (.sl (.sl (.st 0))) x0), (.tv (.sl (.sl (.st 0))) x1)] [] [] (finC (.one .bool) κ)
    = f64.b L N (fun a0 => κ (.tv .bool a0)) x0 x1 := by
  rw [f64.b_pre]
  unfold f64.b
  simp only [f64.l0_eq, f64.p0_e0_eq, f64.p0_r_eq]
theorem f64.s0'_nat {R R' : Type} (j : R → Option R') (L N : Nat) (k0_e0 : Option R) (k0_r : Bool → Option R) (rec0 : (List (List Move)) → (List (List Move)) → Int → Option R) (s0 : (List (List Move))) (s1 : (List (List Move))) (s2 : Int) :
    f64.s0' L N (k0_e0.bind j) (fun a0 => (k0_r a0).bind j) (fun a0 a1 a2 => (rec0 a0 a1 a2).bind j) s0 s1 s2 = (f64.s0' L N k0_e0 k0_r rec0 s0 s1 s2).bind j := by
  unfold f64.s0'
  repeat' (first | (with_reducible refine cond_nat ?_ ?_) | (with_reducible refine bind_nat fun _ => ?_) | rfl)
theorem f64.s0_nat {R R' : Type} (j : R → Option R') (L N : Nat) (k0_e0 : Option R) (k0_r : Bool → Option R) (rec0 : (List (List Move)) → (List (List Move)) → Int → Option R) (s0 : (List (List Move))) (s1 : (List (List Move))) (s2 : Int) :
    f64.s0 L N (k0_e0.bind j) (fun a0 => (k0_r a0).bind j) (fun a0 a1 a2 => (rec0 a0 a1 a2).bind j) s0 s1 s2 = (f64.s0 L N k0_e0 k0_r rec0 s0 s1 s2).bind j := by
  unfold f64.s0
  exact f64.s0'_nat ..
theorem f64.l0_nat {R R' : Type} (j : R → Option R') (L N : Nat) (k0_e0 : Option R) (k0_r : Bool → Option R) : ∀ (n : Nat) (s0 : (List (List Move))) (s1 : (List (List Move))) (s2 : Int),
    f64.l0 L N (k0_e0.bind j) (fun a0 => (k0_r a0).bind j) n s0 s1 s2 = (f64.l0 L N k0_e0 k0_r n s0 s1 s2).bind j := by
  intro n
  induction n with
  | zero => intros; rfl
  | succ n ih =>
    intro s0 s1 s2
    show f64.s0 L N (k0_e0.bind j) (fun a0 => (k0_r a0).bind j) (f64.l0 L N (k0_e0.bind j) (fun a0 => (k0_r a0).bind j) n) s0 s1 s2 = _
    rw [show f64.l0 L N (k0_e0.bind j) (fun a0 => (k0_r a0).bind j) n = (fun s0 s1 s2 => (f64.l0 L N k0_e0 k0_r n s0 s1 s2).bind j) from funext fun s0 => funext fun s1 => funext fun s2 => ih s0 s1 s2]
    exact f64.s0_nat ..
theorem f64.p0_e0'_nat {R R' : Type} (j : R → Option R') (L N : Nat) (k : Bool → Option R) :
    f64.p0_e0' L N (fun a0 => (k a0).bind j) = (f64.p0_e0' L N k).bind j := by
  unfold f64.p0_e0'
  repeat' (first | (with_reducible refine cond_nat ?_ ?_) | (with_reducible refine bind_nat fun _ => ?_) | rfl)
theorem f64.p0_e0_nat {R R' : Type} (j : R → Option R') (L N : Nat) (k : Bool → Option R) :
    f64.p0_e0 L N (fun a0 => (k a0).bind j) = (f64.p0_e0 L N k).bind j := by
  unfold f64.p0_e0
  exact f64.p0_e0'_nat ..
theorem f64.p0_r'_nat {R R' : Type} (j : R → Option R') (L N : Nat) (k : Bool → Option R) (z4 : Bool) :
    f64.p0_r' L N (fun a0 => (k a0).bind j) z4 = (f64.p0_r' L N k z4).bind j := by
  unfold f64.p0_r'
  repeat' (first | (with_reducible refine cond_nat ?_ ?_) | (with_reducible refine bind_nat fun _ => ?_) | rfl)
theorem f64.p0_r_nat {R R' : Type} (j : R → Option R') (L N : Nat) (k : Bool → Option R) (z4 : Bool) :
    f64.p0_r L N (fun a0 => (k a0).bind j) z4 = (f64.p0_r L N k z4).bind j := by
  unfold f64.p0_r
  exact f64.p0_r'_nat ..
theorem f64.b'_nat {R R' : Type} (j : R → Option R') (L N : Nat) (k : Bool → Option R) (w0 : (List (List Move)) → (List (List Move)) → Int → Option R) (x0 : (List (List Move))) (x1 : (List (List Move))) :
    f64.b' L N (fun a0 => (k a0).bind j) (fun a0 a1 a2 => (w0 a0 a1 a2).bind j) x0 x1 = (f64.b' L N k w0 x0 x1).bind j := by
  unfold f64.b'
  repeat' (first | (with_reducible refine cond_nat ?_ ?_) | (with_reducible refine bind_nat fun _ => ?_) | rfl)
theorem f64.b_nat {R R' : Type} (j : R → Option R') (L N : Nat) (k : Bool → Option R) (x0 : (List (List Move))) (x1 : (List (List Move))) :
    f64.b L N (fun a0 => (k a0).bind j) x0 x1 = (f64.b L N k x0 x1).bind j := by
  unfold f64.b
  simp only [f64.l0_nat, f64.p0_e0_nat, f64.p0_r_nat]
  exact f64.b'_nat ..
theorem f64.ok (L N : Nat) (hΦ : TellsOk Try.prog ((Φ101 L N))) : EntOk Try.prog 64 (f64.ent L N) := by
  intro args vw site h
  unfold f64.ent
  split
  · rename_i d ha
    intro y hy hs
    refine call_ro (dep := 1000) (E := (E64 L N)) (rs := (.one .bool)) (v := (.tv .bool y)) (sound_of hΦ) okP (callI_sound (sound_of hΦ) okP 1 2000) (f := Try.f64) rfl hs ha ?_ rfl site
    refine (f64.b_eq L N some d.1 d.2.1).trans ?_
    refine ((f64.b_nat (fun y => (some (.tv .bool y) : Option AV)) L N some d.1 d.2.1)).trans ?_
    rw [show f64.b L N some d.1 d.2.1 = some y from hy]
    rfl
  · intro y hy
    cases hy
def Φ64 (L N : Nat) : Tells := (addT (Φ101 L N) 64 (f64.ent L N))
theorem Φ64_ok (L N : Nat) : TellsOk Try.prog (Φ64 L N) := addT_ok (Φ101_ok L N) (f64.ok L N (Φ101_ok L N))
def f22.b' {R : Type} (L N : Nat) (k : Bool → Option R) (x0 : Graph) (x1 : Graph) : Option R :=
  (f64 L N x0.moves x1.moves).bind fun y0 =>
  bif (!y0) then
    k false
  else k true
def f22.b {R : Type} (L N : Nat) (k : Bool → Option R) (x0 : Graph) (x1 : Graph) : Option R :=
  f22.b' L N k x0 x1
def f22 (L N : Nat) (x0 : Graph) (x1 : Graph) : Option (Bool) := f22.b L N some x0 x1
def f22.ent (L N : Nat) (args : List AV) (vw : View) (site : Nat) : Ans := match roD [(.st 2), (.st 2)] vw args with
  | some d => ⟨Bool, f22 L N d.1 d.2.1, fun y => ((.tv .bool y), [], [])⟩
  | none => Ans.no
noncomputable def E22 (L N : Nat) : Env := { P := Try.prog, ty := tyOf, Φ := (Φ64 L N), inl := inlT, live := lives, liveX := livesX, L := L, dp := none, prom := promT, heal := healT, ren := renT }
theorem f22.b_pre {R : Type} (L N : Nat) (κ : AV → Option R) (x0 : Graph) (x1 : Graph) :
    evBody (E22 L N) (evCallI (E22 L N) 1 2000) 1000 22 Try.f22 [(.tv (.st 2) x0), (.tv (.st 2) x1)] [] [] (finC (.one .bool) κ)
    = f22.b' L N (fun a0 => κ (.tv .bool a0)) x0 x1 := by kernel_rfl
theorem f22.b_eq {R : Type} (L N : Nat) (κ : AV → Option R) (x0 : Graph) (x1 : Graph) :
    evBody (E22 L N) (evCallI (E22 L N) 1 2000) 1000 22 Try.f22 [(.tv (.st 2) x0), (.tv (.st 2) x1)] [] [] (finC (.one .bool) κ)
    = f22.b L N (fun a0 => κ (.tv .bool a0)) x0 x1 := by
  rw [f22.b_pre]
  unfold f22.b
  rfl
theorem f22.b'_nat {R R' : Type} (j : R → Option R') (L N : Nat) (k : Bool → Option R) (x0 : Graph) (x1 : Graph) :
    f22.b' L N (fun a0 => (k a0).bind j) x0 x1 = (f22.b' L N k x0 x1).bind j := by
  unfold f22.b'
  repeat' (first | (with_reducible refine cond_nat ?_ ?_) | (with_reducible refine bind_nat fun _ => ?_) | rfl)
theorem f22.b_nat {R R' : Type} (j : R → Option R') (L N : Nat) (k : Bool → Option R) (x0 : Graph) (x1 : Graph) :
    f22.b L N (fun a0 => (k a0).bind j) x0 x1 = (f22.b L N k x0 x1).bind j := by
  unfold f22.b
  exact f22.b'_nat ..
theorem f22.ok (L N : Nat) (hΦ : TellsOk Try.prog ((Φ64 L N))) : EntOk Try.prog 22 (f22.ent L N) := by
  intro args vw site h
  unfold f22.ent
  split
  · rename_i d ha
    intro y hy hs
    refine call_ro (dep := 1000) (E := (E22 L N)) (rs := (.one .bool)) (v := (.tv .bool y)) (sound_of hΦ) okP (callI_sound (sound_of hΦ) okP 1 2000) (f := Try.f22) rfl hs ha ?_ rfl site
    refine (f22.b_eq L N some d.1 d.2.1).trans ?_
    refine ((f22.b_nat (fun y => (some (.tv .bool y) : Option AV)) L N some d.1 d.2.1)).trans ?_
    rw [show f22.b L N some d.1 d.2.1 = some y from hy]
    rfl
  · intro y hy
    cases hy
def Φ22 (L N : Nat) : Tells := (addT (Φ64 L N) 22 (f22.ent L N))
theorem Φ22_ok (L N : Nat) : TellsOk Try.prog (Φ22 L N) := addT_ok (Φ64_ok L N) (f22.ok L N (Φ64_ok L N))
def f26.s0' {R : Type} (L N : Nat) (n0 : Nat) (k0_e0 : Int → (List Int) → Option R) (rec0 : Int → Int → (List Int) → Option R) (s0 : Int) (s1 : Int) (s2 : (List Int)) : Option R :=
  bif (decide (s1 < (s2.length : Int))) then
    bif (decide (0 ≤ s1) && decide (s1 < (s2.length : Int))) then
      rec0 (wi (s0 + (1 : Int))) (wi (s1 + (1 : Int))) (s2.set s1.toNat s0)
    else none
  else k0_e0 s0 s2
def f26.s0 {R : Type} (L N : Nat) (n0 : Nat) (k0_e0 : Int → (List Int) → Option R) (rec0 : Int → Int → (List Int) → Option R) (s0 : Int) (s1 : Int) (s2 : (List Int)) : Option R :=
  f26.s0' L N n0 k0_e0 rec0 s0 s1 s2
def f26.l0 {R : Type} (L N : Nat) (n0 : Nat) (k0_e0 : Int → (List Int) → Option R) : Nat → Int → Int → (List Int) → Option R
  | 0, _, _, _ => none
  | n + 1, s0, s1, s2 => f26.s0 L N n0 k0_e0 (f26.l0 L N n0 k0_e0 n) s0 s1 s2
def f26.T0 (s0 : Int) (s1 : Int) (s2 : (List Int)) : T := mkT 19 [(0, (.row 0)), (1, (.tv i64 s0)), (5, (.tv i64 s1))] ++ [.row 0]
def f26.H0 (s0 : Int) (s1 : Int) (s2 : (List Int)) : H := [(0, (.row 3 i64 s2))]
def f26.T0_e0 (z3 : Int) (z4 : (List Int)) : T := mkT 19 [(1, (.tv i64 z3))] ++ [.row 0]
def f26.H0_e0 (z3 : Int) (z4 : (List Int)) : H := [(0, (.row 3 i64 z4))]
def f26.p0_e0' {R : Type} (L N : Nat) (n0 : Nat) (k : Int → (List Int) → Option R) (z3 : Int) (z4 : (List Int)) : Option R :=
  bif (Nat.beq z4.length n0) then
    k z3 z4
  else none
def f26.p0_e0 {R : Type} (L N : Nat) (n0 : Nat) (k : Int → (List Int) → Option R) (z3 : Int) (z4 : (List Int)) : Option R :=
  f26.p0_e0' L N n0 k z3 z4
def f26.b' {R : Type} (L N : Nat) (n0 : Nat) (k : Int → (List Int) → Option R) (w0 : Int → Int → (List Int) → Option R) (oo : List Int) (x0 : Int) : Option R :=
  w0 x0 (0 : Int) oo
def f26.b {R : Type} (L N : Nat) (n0 : Nat) (k : Int → (List Int) → Option R) (oo : List Int) (x0 : Int) : Option R :=
  f26.b' L N n0 k (fun s0 s1 s2 => f26.l0 L N n0 (fun z3 z4 => f26.p0_e0 L N n0 k z3 z4) L s0 s1 s2) oo x0
def f26 (L N : Nat) (oo : List Int) (x0 : Int) : Option (Int × (List Int)) := f26.b L N oo.length (fun a0 a1 => some (a0, a1)) oo x0
def f26.ent (L N : Nat) (args : List AV) (vw : View) (site : Nat) : Ans := match ownD none 3 i64 [i64] vw args with
  | some (o, xs, d, u) => ⟨Int × (List Int), f26 L N xs d.1, fun y => ((.tv i64 y.1), u ++ [(o, some (mkO none 3 i64 y.2))], [])⟩
  | none => Ans.no
noncomputable def E26 (L N : Nat) : Env := { P := Try.prog, ty := tyOf, Φ := (Φ22 L N), inl := inlT, live := lives, liveX := livesX, L := L, dp := none, prom := promT, heal := healT, ren := renT }
noncomputable def f26.c0 : Code := loopAt 0 (codeOf Try.f26)
theorem f26.s0_pre {R : Type} (L N n0 : Nat) (κ : Ex → T → H → Option R) (rec : T → H → Option R) (s0 : Int) (s1 : Int) (s2 : (List Int)) :
    evRd (E26 L N) (evCallI (E26 L N) 1 2000) 1000 26 19 0 f26.c0 κ rec (f26.T0 s0 s1 s2) (f26.H0 s0 s1 s2)
    = f26.s0' L N n0 (fun z3 z4 => κ (.exit 0) (f26.T0_e0 z3 z4) (f26.H0_e0 z3 z4)) (fun s0 s1 s2 => rec (f26.T0 s0 s1 s2) (f26.H0 s0 s1 s2)) s0 s1 s2 := by kernel_rfl
theorem f26.s0_eq {R : Type} (L N n0 : Nat) (κ : Ex → T → H → Option R) (rec : T → H → Option R) (s0 : Int) (s1 : Int) (s2 : (List Int)) :
    evRd (E26 L N) (evCallI (E26 L N) 1 2000) 1000 26 19 0 f26.c0 κ rec (f26.T0 s0 s1 s2) (f26.H0 s0 s1 s2)
    = f26.s0 L N n0 (fun z3 z4 => κ (.exit 0) (f26.T0_e0 z3 z4) (f26.H0_e0 z3 z4)) (fun s0 s1 s2 => rec (f26.T0 s0 s1 s2) (f26.H0 s0 s1 s2)) s0 s1 s2 := by
  rw [f26.s0_pre L N n0]
  unfold f26.s0
  rfl
theorem f26.l0_eq {R : Type} (L N n0 : Nat) (κ : Ex → T → H → Option R) : ∀ (n : Nat) (s0 : Int) (s1 : Int) (s2 : (List Int)),
    evLp (E26 L N) (evCallI (E26 L N) 1 2000) 1000 26 19 0 f26.c0 κ n (f26.T0 s0 s1 s2) (f26.H0 s0 s1 s2)
    = f26.l0 L N n0 (fun z3 z4 => κ (.exit 0) (f26.T0_e0 z3 z4) (f26.H0_e0 z3 z4)) n s0 s1 s2 := by
  intro n
  induction n with
  | zero => intros; rfl
  | succ n ih =>
    intro s0 s1 s2
    rw [evLp_succ, f26.s0_eq L N n0]
    simp only [ih]
    rfl
theorem f26.p0_e0_pre {R : Type} (L N n0 : Nat) (κ : AV → List Int → Option R) (z3 : Int) (z4 : (List Int)) :
    (contAt (E26 L N) (evCallI (E26 L N) 1 2000) 1000 26 19 0 (codeOf Try.f26) (finK (E26 L N) 1000 Try.f26 (finO (.one i64) none 3 i64 n0 κ))) (.exit 0) (f26.T0_e0 z3 z4) (f26.H0_e0 z3 z4)
    = f26.p0_e0' L N n0 (fun a0 a1 => κ (.tv i64 a0) a1) z3 z4 := by kernel_rfl
theorem f26.p0_e0_eq {R : Type} (L N n0 : Nat) (κ : AV → List Int → Option R) (z3 : Int) (z4 : (List Int)) :
    (contAt (E26 L N) (evCallI (E26 L N) 1 2000) 1000 26 19 0 (codeOf Try.f26) (finK (E26 L N) 1000 Try.f26 (finO (.one i64) none 3 i64 n0 κ))) (.exit 0) (f26.T0_e0 z3 z4) (f26.H0_e0 z3 z4)
    = f26.p0_e0 L N n0 (fun a0 a1 => κ (.tv i64 a0) a1) z3 z4 := by
  rw [f26.p0_e0_pre L N n0]
  unfold f26.p0_e0
  rfl
theorem f26.b_pre {R : Type} (L N n0 : Nat) (κ : AV → List Int → Option R) (oo : List Int) (x0 : Int) :
    evBody (E26 L N) (evCallI (E26 L N) 1 2000) 1000 26 Try.f26 [(.row 0), (.tv i64 x0)] [.row 0] [(0, (.row 3 i64 oo))] (finO (.one i64) none 3 i64 n0 κ)
    = f26.b' L N n0 (fun a0 a1 => κ (.tv i64 a0) a1) (fun s0 s1 s2 => evLp (E26 L N) (evCallI (E26 L N) 1 2000) 1000 26 19 0 f26.c0 (contAt (E26 L N) (evCallI (E26 L N) 1 2000) 1000 26 19 0 (codeOf Try.f26) (finK (E26 L N) 1000 Try.f26 (finO (.one i64) none 3 i64 n0 κ))) L (f26.T0 s0 s1 s2) (f26.H0 s0 s1 s2)) oo x0 := by kernel_rfl
theorem f26.b_eq {R : Type} (L N n0 : Nat) (κ : AV → List Int → Option R) (oo : List Int) (x0 : Int) :
    evBody (E26 L N) (evCallI (E26 L N) 1 2000) 1000 26 Try.f26 [(.row 0), (.tv i64 x0)] [.row 0] [(0, (.row 3 i64 oo))] (finO (.one i64) none 3 i64 n0 κ)
    = f26.b L N n0 (fun a0 a1 => κ (.tv i64 a0) a1) oo x0 := by
  rw [f26.b_pre L N n0]
  unfold f26.b
  simp only [f26.l0_eq L N n0, f26.p0_e0_eq L N n0]
theorem f26.s0'_nat {R R' : Type} (j : R → Option R') (L N : Nat) (n0 : Nat) (k0_e0 : Int → (List Int) → Option R) (rec0 : Int → Int → (List Int) → Option R) (s0 : Int) (s1 : Int) (s2 : (List Int)) :
    f26.s0' L N n0 (fun a0 a1 => (k0_e0 a0 a1).bind j) (fun a0 a1 a2 => (rec0 a0 a1 a2).bind j) s0 s1 s2 = (f26.s0' L N n0 k0_e0 rec0 s0 s1 s2).bind j := by
  unfold f26.s0'
  repeat' (first | (with_reducible refine cond_nat ?_ ?_) | (with_reducible refine bind_nat fun _ => ?_) | rfl)
theorem f26.s0_nat {R R' : Type} (j : R → Option R') (L N : Nat) (n0 : Nat) (k0_e0 : Int → (List Int) → Option R) (rec0 : Int → Int → (List Int) → Option R) (s0 : Int) (s1 : Int) (s2 : (List Int)) :
    f26.s0 L N n0 (fun a0 a1 => (k0_e0 a0 a1).bind j) (fun a0 a1 a2 => (rec0 a0 a1 a2).bind j) s0 s1 s2 = (f26.s0 L N n0 k0_e0 rec0 s0 s1 s2).bind j := by
  unfold f26.s0
  exact f26.s0'_nat ..
theorem f26.l0_nat {R R' : Type} (j : R → Option R') (L N : Nat) (n0 : Nat) (k0_e0 : Int → (List Int) → Option R) : ∀ (n : Nat) (s0 : Int) (s1 : Int) (s2 : (List Int)),
    f26.l0 L N n0 (fun a0 a1 => (k0_e0 a0 a1).bind j) n s0 s1 s2 = (f26.l0 L N n0 k0_e0 n s0 s1 s2).bind j := by
  intro n
  induction n with
  | zero => intros; rfl
  | succ n ih =>
    intro s0 s1 s2
    show f26.s0 L N n0 (fun a0 a1 => (k0_e0 a0 a1).bind j) (f26.l0 L N n0 (fun a0 a1 => (k0_e0 a0 a1).bind j) n) s0 s1 s2 = _
    rw [show f26.l0 L N n0 (fun a0 a1 => (k0_e0 a0 a1).bind j) n = (fun s0 s1 s2 => (f26.l0 L N n0 k0_e0 n s0 s1 s2).bind j) from funext fun s0 => funext fun s1 => funext fun s2 => ih s0 s1 s2]
    exact f26.s0_nat ..
theorem f26.p0_e0'_nat {R R' : Type} (j : R → Option R') (L N : Nat) (n0 : Nat) (k : Int → (List Int) → Option R) (z3 : Int) (z4 : (List Int)) :
    f26.p0_e0' L N n0 (fun a0 a1 => (k a0 a1).bind j) z3 z4 = (f26.p0_e0' L N n0 k z3 z4).bind j := by
  unfold f26.p0_e0'
  repeat' (first | (with_reducible refine cond_nat ?_ ?_) | (with_reducible refine bind_nat fun _ => ?_) | rfl)
theorem f26.p0_e0_nat {R R' : Type} (j : R → Option R') (L N : Nat) (n0 : Nat) (k : Int → (List Int) → Option R) (z3 : Int) (z4 : (List Int)) :
    f26.p0_e0 L N n0 (fun a0 a1 => (k a0 a1).bind j) z3 z4 = (f26.p0_e0 L N n0 k z3 z4).bind j := by
  unfold f26.p0_e0
  exact f26.p0_e0'_nat ..
theorem f26.b'_nat {R R' : Type} (j : R → Option R') (L N : Nat) (n0 : Nat) (k : Int → (List Int) → Option R) (w0 : Int → Int → (List Int) → Option R) (oo : List Int) (x0 : Int) :
    f26.b' L N n0 (fun a0 a1 => (k a0 a1).bind j) (fun a0 a1 a2 => (w0 a0 a1 a2).bind j) oo x0 = (f26.b' L N n0 k w0 oo x0).bind j := by
  unfold f26.b'
  repeat' (first | (with_reducible refine cond_nat ?_ ?_) | (with_reducible refine bind_nat fun _ => ?_) | rfl)
theorem f26.b_nat {R R' : Type} (j : R → Option R') (L N : Nat) (n0 : Nat) (k : Int → (List Int) → Option R) (oo : List Int) (x0 : Int) :
    f26.b L N n0 (fun a0 a1 => (k a0 a1).bind j) oo x0 = (f26.b L N n0 k oo x0).bind j := by
  unfold f26.b
  simp only [f26.l0_nat, f26.p0_e0_nat]
  exact f26.b'_nat ..
theorem f26.ok (L N : Nat) (hΦ : TellsOk Try.prog ((Φ22 L N))) : EntOk Try.prog 26 (f26.ent L N) := by
  intro args vw site h
  unfold f26.ent
  split
  · rename_i o xs d u ha
    intro y hy hs
    obtain ⟨rest, rfl, ho, hr, hu⟩ := ownD_some ha
    refine call_own (dep := 1000) (E := (E26 L N)) (tr := [i64]) (q := none) (el := 3) (ty := i64) (rs := (.one i64)) (v' := (.tv i64 y.1)) (ys := y.2) (sound_of hΦ) okP (callI_sound (sound_of hΦ) okP 1 2000) (f := Try.f26) rfl hs ho hr hu ?_ site
    refine (f26.b_eq L N xs.length (fun v d => some (v, d)) xs d.1).trans ?_
    refine ((f26.b_nat (fun y => (some ((.tv i64 y.1), y.2) : Option (AV × List Int))) L N xs.length (fun a0 a1 => some (a0, a1)) xs d.1)).trans ?_
    rw [show f26.b L N xs.length (fun a0 a1 => some (a0, a1)) xs d.1 = some y from hy]
    rfl
  · intro y hy
    cases hy
def Φ26 (L N : Nat) : Tells := (addT (Φ22 L N) 26 (f26.ent L N))
theorem Φ26_ok (L N : Nat) : TellsOk Try.prog (Φ26 L N) := addT_ok (Φ22_ok L N) (f26.ok L N (Φ22_ok L N))
def f27.s0' {R : Type} (L N : Nat) (k0_e0 : Int → Option R) (k0_r : Int → Int → Option R) (rec0 : (List Int) → Int → Int → Option R) (s0 : (List Int)) (s1 : Int) (s2 : Int) : Option R :=
  bif (decide (s2 < (s0.length : Int))) then
    bif (decide (0 ≤ s2) && decide (s2 < (s0.length : Int))) then
      bif ((listAt s0 (0 : Int) s2.toNat) != s1) then
        k0_r s1 (-1 : Int)
      else rec0 s0 (wi (s1 + (1 : Int))) (wi (s2 + (1 : Int)))
    else none
  else k0_e0 s1
def f27.s0 {R : Type} (L N : Nat) (k0_e0 : Int → Option R) (k0_r : Int → Int → Option R) (rec0 : (List Int) → Int → Int → Option R) (s0 : (List Int)) (s1 : Int) (s2 : Int) : Option R :=
  f27.s0' L N k0_e0 k0_r rec0 s0 s1 s2
def f27.l0 {R : Type} (L N : Nat) (k0_e0 : Int → Option R) (k0_r : Int → Int → Option R) : Nat → (List Int) → Int → Int → Option R
  | 0, _, _, _ => none
  | n + 1, s0, s1, s2 => f27.s0 L N k0_e0 k0_r (f27.l0 L N k0_e0 k0_r n) s0 s1 s2
def f27.T0 (s0 : (List Int)) (s1 : Int) (s2 : Int) : T := mkT 21 [(0, (.tv (.sl i64) s0)), (1, (.tv i64 s1)), (5, (.tv i64 s2))]
def f27.H0 (s0 : (List Int)) (s1 : Int) (s2 : Int) : H := []
def f27.T0_e0 (z3 : Int) : T := mkT 21 [(1, (.tv i64 z3))]
def f27.H0_e0 (z3 : Int) : H := []
def f27.T0_r (z4 : Int) (z5 : Int) : T := mkT 21 [(1, (.tv i64 z4)), (4, (.tv i64 z5))]
def f27.H0_r (z4 : Int) (z5 : Int) : H := []
def f27.p0_e0' {R : Type} (L N : Nat) (k : Int → Option R) (z3 : Int) : Option R :=
  k z3
def f27.p0_e0 {R : Type} (L N : Nat) (k : Int → Option R) (z3 : Int) : Option R :=
  f27.p0_e0' L N k z3
def f27.p0_r' {R : Type} (L N : Nat) (k : Int → Option R) (z4 : Int) (z5 : Int) : Option R :=
  k z5
def f27.p0_r {R : Type} (L N : Nat) (k : Int → Option R) (z4 : Int) (z5 : Int) : Option R :=
  f27.p0_r' L N k z4 z5
def f27.b' {R : Type} (L N : Nat) (k : Int → Option R) (w0 : (List Int) → Int → Int → Option R) (x0 : (List Int)) (x1 : Int) : Option R :=
  w0 x0 x1 (0 : Int)
def f27.b {R : Type} (L N : Nat) (k : Int → Option R) (x0 : (List Int)) (x1 : Int) : Option R :=
  f27.b' L N k (fun s0 s1 s2 => f27.l0 L N (fun z3 => f27.p0_e0 L N k z3) (fun z4 z5 => f27.p0_r L N k z4 z5) L s0 s1 s2) x0 x1
def f27 (L N : Nat) (x0 : (List Int)) (x1 : Int) : Option (Int) := f27.b L N some x0 x1
def f27.ent (L N : Nat) (args : List AV) (vw : View) (site : Nat) : Ans := match roD [(.sl i64), i64] vw args with
  | some d => ⟨Int, f27 L N d.1 d.2.1, fun y => ((.tv i64 y), [], [])⟩
  | none => Ans.no
noncomputable def E27 (L N : Nat) : Env := { P := Try.prog, ty := tyOf, Φ := (Φ26 L N), inl := inlT, live := lives, liveX := livesX, L := L, dp := none, prom := promT, heal := healT, ren := renT }
noncomputable def f27.c0 : Code := loopAt 0 (codeOf Try.f27)
theorem f27.s0_pre {R : Type} (L N : Nat) (κ : Ex → T → H → Option R) (rec : T → H → Option R) (s0 : (List Int)) (s1 : Int) (s2 : Int) :
    evRd (E27 L N) (evCallI (E27 L N) 1 2000) 1000 27 21 0 f27.c0 κ rec (f27.T0 s0 s1 s2) (f27.H0 s0 s1 s2)
    = f27.s0' L N (fun z3 => κ (.exit 0) (f27.T0_e0 z3) (f27.H0_e0 z3)) (fun z4 z5 => κ .ret (f27.T0_r z4 z5) (f27.H0_r z4 z5)) (fun s0 s1 s2 => rec (f27.T0 s0 s1 s2) (f27.H0 s0 s1 s2)) s0 s1 s2 := by kernel_rfl
theorem f27.s0_eq {R : Type} (L N : Nat) (κ : Ex → T → H → Option R) (rec : T → H → Option R) (s0 : (List Int)) (s1 : Int) (s2 : Int) :
    evRd (E27 L N) (evCallI (E27 L N) 1 2000) 1000 27 21 0 f27.c0 κ rec (f27.T0 s0 s1 s2) (f27.H0 s0 s1 s2)
    = f27.s0 L N (fun z3 => κ (.exit 0) (f27.T0_e0 z3) (f27.H0_e0 z3)) (fun z4 z5 => κ .ret (f27.T0_r z4 z5) (f27.H0_r z4 z5)) (fun s0 s1 s2 => rec (f27.T0 s0 s1 s2) (f27.H0 s0 s1 s2)) s0 s1 s2 := by
  rw [f27.s0_pre]
  unfold f27.s0
  rfl
theorem f27.l0_eq {R : Type} (L N : Nat) (κ : Ex → T → H → Option R) : ∀ (n : Nat) (s0 : (List Int)) (s1 : Int) (s2 : Int),
    evLp (E27 L N) (evCallI (E27 L N) 1 2000) 1000 27 21 0 f27.c0 κ n (f27.T0 s0 s1 s2) (f27.H0 s0 s1 s2)
    = f27.l0 L N (fun z3 => κ (.exit 0) (f27.T0_e0 z3) (f27.H0_e0 z3)) (fun z4 z5 => κ .ret (f27.T0_r z4 z5) (f27.H0_r z4 z5)) n s0 s1 s2 := by
  intro n
  induction n with
  | zero => intros; rfl
  | succ n ih =>
    intro s0 s1 s2
    rw [evLp_succ, f27.s0_eq]
    simp only [ih]
    rfl
theorem f27.p0_e0_pre {R : Type} (L N : Nat) (κ : AV → Option R) (z3 : Int) :
    (contAt (E27 L N) (evCallI (E27 L N) 1 2000) 1000 27 21 0 (codeOf Try.f27) (finK (E27 L N) 1000 Try.f27 (finC (.one i64) κ))) (.exit 0) (f27.T0_e0 z3) (f27.H0_e0 z3)
    = f27.p0_e0' L N (fun a0 => κ (.tv i64 a0)) z3 := by kernel_rfl
theorem f27.p0_e0_eq {R : Type} (L N : Nat) (κ : AV → Option R) (z3 : Int) :
    (contAt (E27 L N) (evCallI (E27 L N) 1 2000) 1000 27 21 0 (codeOf Try.f27) (finK (E27 L N) 1000 Try.f27 (finC (.one i64) κ))) (.exit 0) (f27.T0_e0 z3) (f27.H0_e0 z3)
    = f27.p0_e0 L N (fun a0 => κ (.tv i64 a0)) z3 := by
  rw [f27.p0_e0_pre]
  unfold f27.p0_e0
  rfl
theorem f27.p0_r_pre {R : Type} (L N : Nat) (κ : AV → Option R) (z4 : Int) (z5 : Int) :
    (contAt (E27 L N) (evCallI (E27 L N) 1 2000) 1000 27 21 0 (codeOf Try.f27) (finK (E27 L N) 1000 Try.f27 (finC (.one i64) κ))) .ret (f27.T0_r z4 z5) (f27.H0_r z4 z5)
    = f27.p0_r' L N (fun a0 => κ (.tv i64 a0)) z4 z5 := by kernel_rfl
theorem f27.p0_r_eq {R : Type} (L N : Nat) (κ : AV → Option R) (z4 : Int) (z5 : Int) :
    (contAt (E27 L N) (evCallI (E27 L N) 1 2000) 1000 27 21 0 (codeOf Try.f27) (finK (E27 L N) 1000 Try.f27 (finC (.one i64) κ))) .ret (f27.T0_r z4 z5) (f27.H0_r z4 z5)
    = f27.p0_r L N (fun a0 => κ (.tv i64 a0)) z4 z5 := by
  rw [f27.p0_r_pre]
  unfold f27.p0_r
  rfl
theorem f27.b_pre {R : Type} (L N : Nat) (κ : AV → Option R) (x0 : (List Int)) (x1 : Int) :
    evBody (E27 L N) (evCallI (E27 L N) 1 2000) 1000 27 Try.f27 [(.tv (.sl i64) x0), (.tv i64 x1)] [] [] (finC (.one i64) κ)
    = f27.b' L N (fun a0 => κ (.tv i64 a0)) (fun s0 s1 s2 => evLp (E27 L N) (evCallI (E27 L N) 1 2000) 1000 27 21 0 f27.c0 (contAt (E27 L N) (evCallI (E27 L N) 1 2000) 1000 27 21 0 (codeOf Try.f27) (finK (E27 L N) 1000 Try.f27 (finC (.one i64) κ))) L (f27.T0 s0 s1 s2) (f27.H0 s0 s1 s2)) x0 x1 := by kernel_rfl
theorem f27.b_eq {R : Type} (L N : Nat) (κ : AV → Option R) (x0 : (List Int)) (x1 : Int) :
    evBody (E27 L N) (evCallI (E27 L N) 1 2000) 1000 27 Try.f27 [(.tv (.sl i64) x0), (.tv i64 x1)] [] [] (finC (.one i64) κ)
    = f27.b L N (fun a0 => κ (.tv i64 a0)) x0 x1 := by
  rw [f27.b_pre]
  unfold f27.b
  simp only [f27.l0_eq, f27.p0_e0_eq, f27.p0_r_eq]
theorem f27.s0'_nat {R R' : Type} (j : R → Option R') (L N : Nat) (k0_e0 : Int → Option R) (k0_r : Int → Int → Option R) (rec0 : (List Int) → Int → Int → Option R) (s0 : (List Int)) (s1 : Int) (s2 : Int) :
    f27.s0' L N (fun a0 => (k0_e0 a0).bind j) (fun a0 a1 => (k0_r a0 a1).bind j) (fun a0 a1 a2 => (rec0 a0 a1 a2).bind j) s0 s1 s2 = (f27.s0' L N k0_e0 k0_r rec0 s0 s1 s2).bind j := by
  unfold f27.s0'
  repeat' (first | (with_reducible refine cond_nat ?_ ?_) | (with_reducible refine bind_nat fun _ => ?_) | rfl)
theorem f27.s0_nat {R R' : Type} (j : R → Option R') (L N : Nat) (k0_e0 : Int → Option R) (k0_r : Int → Int → Option R) (rec0 : (List Int) → Int → Int → Option R) (s0 : (List Int)) (s1 : Int) (s2 : Int) :
    f27.s0 L N (fun a0 => (k0_e0 a0).bind j) (fun a0 a1 => (k0_r a0 a1).bind j) (fun a0 a1 a2 => (rec0 a0 a1 a2).bind j) s0 s1 s2 = (f27.s0 L N k0_e0 k0_r rec0 s0 s1 s2).bind j := by
  unfold f27.s0
  exact f27.s0'_nat ..
theorem f27.l0_nat {R R' : Type} (j : R → Option R') (L N : Nat) (k0_e0 : Int → Option R) (k0_r : Int → Int → Option R) : ∀ (n : Nat) (s0 : (List Int)) (s1 : Int) (s2 : Int),
    f27.l0 L N (fun a0 => (k0_e0 a0).bind j) (fun a0 a1 => (k0_r a0 a1).bind j) n s0 s1 s2 = (f27.l0 L N k0_e0 k0_r n s0 s1 s2).bind j := by
  intro n
  induction n with
  | zero => intros; rfl
  | succ n ih =>
    intro s0 s1 s2
    show f27.s0 L N (fun a0 => (k0_e0 a0).bind j) (fun a0 a1 => (k0_r a0 a1).bind j) (f27.l0 L N (fun a0 => (k0_e0 a0).bind j) (fun a0 a1 => (k0_r a0 a1).bind j) n) s0 s1 s2 = _
    rw [show f27.l0 L N (fun a0 => (k0_e0 a0).bind j) (fun a0 a1 => (k0_r a0 a1).bind j) n = (fun s0 s1 s2 => (f27.l0 L N k0_e0 k0_r n s0 s1 s2).bind j) from funext fun s0 => funext fun s1 => funext fun s2 => ih s0 s1 s2]
    exact f27.s0_nat ..
theorem f27.p0_e0'_nat {R R' : Type} (j : R → Option R') (L N : Nat) (k : Int → Option R) (z3 : Int) :
    f27.p0_e0' L N (fun a0 => (k a0).bind j) z3 = (f27.p0_e0' L N k z3).bind j := by
  unfold f27.p0_e0'
  repeat' (first | (with_reducible refine cond_nat ?_ ?_) | (with_reducible refine bind_nat fun _ => ?_) | rfl)
theorem f27.p0_e0_nat {R R' : Type} (j : R → Option R') (L N : Nat) (k : Int → Option R) (z3 : Int) :
    f27.p0_e0 L N (fun a0 => (k a0).bind j) z3 = (f27.p0_e0 L N k z3).bind j := by
  unfold f27.p0_e0
  exact f27.p0_e0'_nat ..
theorem f27.p0_r'_nat {R R' : Type} (j : R → Option R') (L N : Nat) (k : Int → Option R) (z4 : Int) (z5 : Int) :
    f27.p0_r' L N (fun a0 => (k a0).bind j) z4 z5 = (f27.p0_r' L N k z4 z5).bind j := by
  unfold f27.p0_r'
  repeat' (first | (with_reducible refine cond_nat ?_ ?_) | (with_reducible refine bind_nat fun _ => ?_) | rfl)
theorem f27.p0_r_nat {R R' : Type} (j : R → Option R') (L N : Nat) (k : Int → Option R) (z4 : Int) (z5 : Int) :
    f27.p0_r L N (fun a0 => (k a0).bind j) z4 z5 = (f27.p0_r L N k z4 z5).bind j := by
  unfold f27.p0_r
  exact f27.p0_r'_nat ..
theorem f27.b'_nat {R R' : Type} (j : R → Option R') (L N : Nat) (k : Int → Option R) (w0 : (List Int) → Int → Int → Option R) (x0 : (List Int)) (x1 : Int) :
    f27.b' L N (fun a0 => (k a0).bind j) (fun a0 a1 a2 => (w0 a0 a1 a2).bind j) x0 x1 = (f27.b' L N k w0 x0 x1).bind j := by
  unfold f27.b'
  repeat' (first | (with_reducible refine cond_nat ?_ ?_) | (with_reducible refine bind_nat fun _ => ?_) | rfl)
theorem f27.b_nat {R R' : Type} (j : R → Option R') (L N : Nat) (k : Int → Option R) (x0 : (List Int)) (x1 : Int) :
    f27.b L N (fun a0 => (k a0).bind j) x0 x1 = (f27.b L N k x0 x1).bind j := by
  unfold f27.b
  simp only [f27.l0_nat, f27.p0_e0_nat, f27.p0_r_nat]
  exact f27.b'_nat ..
theorem f27.ok (L N : Nat) (hΦ : TellsOk Try.prog ((Φ26 L N))) : EntOk Try.prog 27 (f27.ent L N) := by
  intro args vw site h
  unfold f27.ent
  split
  · rename_i d ha
    intro y hy hs
    refine call_ro (dep := 1000) (E := (E27 L N)) (rs := (.one i64)) (v := (.tv i64 y)) (sound_of hΦ) okP (callI_sound (sound_of hΦ) okP 1 2000) (f := Try.f27) rfl hs ha ?_ rfl site
    refine (f27.b_eq L N some d.1 d.2.1).trans ?_
    refine ((f27.b_nat (fun y => (some (.tv i64 y) : Option AV)) L N some d.1 d.2.1)).trans ?_
    rw [show f27.b L N some d.1 d.2.1 = some y from hy]
    rfl
  · intro y hy
    cases hy
def Φ27 (L N : Nat) : Tells := (addT (Φ26 L N) 27 (f27.ent L N))
theorem Φ27_ok (L N : Nat) : TellsOk Try.prog (Φ27 L N) := addT_ok (Φ26_ok L N) (f27.ok L N (Φ26_ok L N))
def f36.s0' {R : Type} (L N : Nat) (k0_e0 : (List Int) → Option R) (rec0 : (List Int) → Int → (List Int) → Option R) (s0 : (List Int)) (s1 : Int) (s2 : (List Int)) : Option R :=
  bif (decide (s1 < (s0.length : Int))) then
    bif (decide (0 ≤ s1) && decide (s1 < (s0.length : Int))) then
      bif (decide (0 ≤ s1) && decide (s1 < (s2.length : Int))) then
        rec0 s0 (wi (s1 + (1 : Int))) (s2.set s1.toNat (listAt s0 (0 : Int) s1.toNat))
      else none
    else none
  else k0_e0 s2
def f36.s0 {R : Type} (L N : Nat) (k0_e0 : (List Int) → Option R) (rec0 : (List Int) → Int → (List Int) → Option R) (s0 : (List Int)) (s1 : Int) (s2 : (List Int)) : Option R :=
  f36.s0' L N k0_e0 rec0 s0 s1 s2
def f36.l0 {R : Type} (L N : Nat) (k0_e0 : (List Int) → Option R) : Nat → (List Int) → Int → (List Int) → Option R
  | 0, _, _, _ => none
  | n + 1, s0, s1, s2 => f36.s0 L N k0_e0 (f36.l0 L N k0_e0 n) s0 s1 s2
def f36.T0 (s0 : (List Int)) (s1 : Int) (s2 : (List Int)) : T := mkT 22 [(0, (.tv (.sl i64) s0)), (3, (.row 1007)), (4, (.tv i64 s1))]
def f36.H0 (s0 : (List Int)) (s1 : Int) (s2 : (List Int)) : H := [(1007, (.row 3 i64 s2))]
def f36.T0_e0 (z3 : (List Int)) : T := mkT 22 [(3, (.row 1007))]
def f36.H0_e0 (z3 : (List Int)) : H := [(1007, (.row 3 i64 z3))]
def f36.p0_e0' {R : Type} (L N : Nat) (k : (List Int) → Option R) (z3 : (List Int)) : Option R :=
  k z3
def f36.p0_e0 {R : Type} (L N : Nat) (k : (List Int) → Option R) (z3 : (List Int)) : Option R :=
  f36.p0_e0' L N k z3
def f36.b' {R : Type} (L N : Nat) (k : (List Int) → Option R) (w0 : (List Int) → Int → (List Int) → Option R) (x0 : (List Int)) : Option R :=
  bif (decide (0 ≤ (x0.length : Int)) && decide ((x0.length : Int) ≤ (lim : Int))) then
    w0 x0 (0 : Int) (List.replicate (x0.length : Int).toNat (0 : Int))
  else none
def f36.b {R : Type} (L N : Nat) (k : (List Int) → Option R) (x0 : (List Int)) : Option R :=
  f36.b' L N k (fun s0 s1 s2 => f36.l0 L N (fun z3 => f36.p0_e0 L N k z3) L s0 s1 s2) x0
def f36 (L N : Nat) (x0 : (List Int)) : Option ((List Int)) := f36.b L N some x0
def f36.ent (L N : Nat) (args : List AV) (vw : View) (site : Nat) : Ans := match roD [(.sl i64)] vw args with
  | some d => ⟨(List Int), f36 L N d.1, fun y => (RN.av site .row (), [(site, some (mkO none 3 i64 y))], [])⟩
  | none => Ans.no
noncomputable def E36 (L N : Nat) : Env := { P := Try.prog, ty := tyOf, Φ := (Φ27 L N), inl := inlT, live := lives, liveX := livesX, L := L, dp := none, prom := promT, heal := healT, ren := renT }
noncomputable def f36.c0 : Code := loopAt 0 (codeOf Try.f36)
theorem f36.s0_pre {R : Type} (L N : Nat) (κ : Ex → T → H → Option R) (rec : T → H → Option R) (s0 : (List Int)) (s1 : Int) (s2 : (List Int)) :
    evRd (E36 L N) (evCallI (E36 L N) 1 2000) 1000 36 22 0 f36.c0 κ rec (f36.T0 s0 s1 s2) (f36.H0 s0 s1 s2)
    = f36.s0' L N (fun z3 => κ (.exit 0) (f36.T0_e0 z3) (f36.H0_e0 z3)) (fun s0 s1 s2 => rec (f36.T0 s0 s1 s2) (f36.H0 s0 s1 s2)) s0 s1 s2 := by kernel_rfl
theorem f36.s0_eq {R : Type} (L N : Nat) (κ : Ex → T → H → Option R) (rec : T → H → Option R) (s0 : (List Int)) (s1 : Int) (s2 : (List Int)) :
    evRd (E36 L N) (evCallI (E36 L N) 1 2000) 1000 36 22 0 f36.c0 κ rec (f36.T0 s0 s1 s2) (f36.H0 s0 s1 s2)
    = f36.s0 L N (fun z3 => κ (.exit 0) (f36.T0_e0 z3) (f36.H0_e0 z3)) (fun s0 s1 s2 => rec (f36.T0 s0 s1 s2) (f36.H0 s0 s1 s2)) s0 s1 s2 := by
  rw [f36.s0_pre]
  unfold f36.s0
  rfl
theorem f36.l0_eq {R : Type} (L N : Nat) (κ : Ex → T → H → Option R) : ∀ (n : Nat) (s0 : (List Int)) (s1 : Int) (s2 : (List Int)),
    evLp (E36 L N) (evCallI (E36 L N) 1 2000) 1000 36 22 0 f36.c0 κ n (f36.T0 s0 s1 s2) (f36.H0 s0 s1 s2)
    = f36.l0 L N (fun z3 => κ (.exit 0) (f36.T0_e0 z3) (f36.H0_e0 z3)) n s0 s1 s2 := by
  intro n
  induction n with
  | zero => intros; rfl
  | succ n ih =>
    intro s0 s1 s2
    rw [evLp_succ, f36.s0_eq]
    simp only [ih]
    rfl
theorem f36.p0_e0_pre {R : Type} (L N : Nat) (κ : RN.Den .row → List Int → Option R) (z3 : (List Int)) :
    (contAt (E36 L N) (evCallI (E36 L N) 1 2000) 1000 36 22 0 (codeOf Try.f36) (finK (E36 L N) 1000 Try.f36 (finN .row none 3 i64 κ))) (.exit 0) (f36.T0_e0 z3) (f36.H0_e0 z3)
    = f36.p0_e0' L N (fun a0 => κ () a0) z3 := by kernel_rfl
theorem f36.p0_e0_eq {R : Type} (L N : Nat) (κ : RN.Den .row → List Int → Option R) (z3 : (List Int)) :
    (contAt (E36 L N) (evCallI (E36 L N) 1 2000) 1000 36 22 0 (codeOf Try.f36) (finK (E36 L N) 1000 Try.f36 (finN .row none 3 i64 κ))) (.exit 0) (f36.T0_e0 z3) (f36.H0_e0 z3)
    = f36.p0_e0 L N (fun a0 => κ () a0) z3 := by
  rw [f36.p0_e0_pre]
  unfold f36.p0_e0
  rfl
theorem f36.b_pre {R : Type} (L N : Nat) (κ : RN.Den .row → List Int → Option R) (x0 : (List Int)) :
    evBody (E36 L N) (evCallI (E36 L N) 1 2000) 1000 36 Try.f36 [(.tv (.sl i64) x0)] [] [] (finN .row none 3 i64 κ)
    = f36.b' L N (fun a0 => κ () a0) (fun s0 s1 s2 => evLp (E36 L N) (evCallI (E36 L N) 1 2000) 1000 36 22 0 f36.c0 (contAt (E36 L N) (evCallI (E36 L N) 1 2000) 1000 36 22 0 (codeOf Try.f36) (finK (E36 L N) 1000 Try.f36 (finN .row none 3 i64 κ))) L (f36.T0 s0 s1 s2) (f36.H0 s0 s1 s2)) x0 := by kernel_rfl
theorem f36.b_eq {R : Type} (L N : Nat) (κ : RN.Den .row → List Int → Option R) (x0 : (List Int)) :
    evBody (E36 L N) (evCallI (E36 L N) 1 2000) 1000 36 Try.f36 [(.tv (.sl i64) x0)] [] [] (finN .row none 3 i64 κ)
    = f36.b L N (fun a0 => κ () a0) x0 := by
  rw [f36.b_pre]
  unfold f36.b
  simp only [f36.l0_eq, f36.p0_e0_eq]
theorem f36.s0'_nat {R R' : Type} (j : R → Option R') (L N : Nat) (k0_e0 : (List Int) → Option R) (rec0 : (List Int) → Int → (List Int) → Option R) (s0 : (List Int)) (s1 : Int) (s2 : (List Int)) :
    f36.s0' L N (fun a0 => (k0_e0 a0).bind j) (fun a0 a1 a2 => (rec0 a0 a1 a2).bind j) s0 s1 s2 = (f36.s0' L N k0_e0 rec0 s0 s1 s2).bind j := by
  unfold f36.s0'
  repeat' (first | (with_reducible refine cond_nat ?_ ?_) | (with_reducible refine bind_nat fun _ => ?_) | rfl)
theorem f36.s0_nat {R R' : Type} (j : R → Option R') (L N : Nat) (k0_e0 : (List Int) → Option R) (rec0 : (List Int) → Int → (List Int) → Option R) (s0 : (List Int)) (s1 : Int) (s2 : (List Int)) :
    f36.s0 L N (fun a0 => (k0_e0 a0).bind j) (fun a0 a1 a2 => (rec0 a0 a1 a2).bind j) s0 s1 s2 = (f36.s0 L N k0_e0 rec0 s0 s1 s2).bind j := by
  unfold f36.s0
  exact f36.s0'_nat ..
theorem f36.l0_nat {R R' : Type} (j : R → Option R') (L N : Nat) (k0_e0 : (List Int) → Option R) : ∀ (n : Nat) (s0 : (List Int)) (s1 : Int) (s2 : (List Int)),
    f36.l0 L N (fun a0 => (k0_e0 a0).bind j) n s0 s1 s2 = (f36.l0 L N k0_e0 n s0 s1 s2).bind j := by
  intro n
  induction n with
  | zero => intros; rfl
  | succ n ih =>
    intro s0 s1 s2
    show f36.s0 L N (fun a0 => (k0_e0 a0).bind j) (f36.l0 L N (fun a0 => (k0_e0 a0).bind j) n) s0 s1 s2 = _
    rw [show f36.l0 L N (fun a0 => (k0_e0 a0).bind j) n = (fun s0 s1 s2 => (f36.l0 L N k0_e0 n s0 s1 s2).bind j) from funext fun s0 => funext fun s1 => funext fun s2 => ih s0 s1 s2]
    exact f36.s0_nat ..
theorem f36.p0_e0'_nat {R R' : Type} (j : R → Option R') (L N : Nat) (k : (List Int) → Option R) (z3 : (List Int)) :
    f36.p0_e0' L N (fun a0 => (k a0).bind j) z3 = (f36.p0_e0' L N k z3).bind j := by
  unfold f36.p0_e0'
  repeat' (first | (with_reducible refine cond_nat ?_ ?_) | (with_reducible refine bind_nat fun _ => ?_) | rfl)
theorem f36.p0_e0_nat {R R' : Type} (j : R → Option R') (L N : Nat) (k : (List Int) → Option R) (z3 : (List Int)) :
    f36.p0_e0 L N (fun a0 => (k a0).bind j) z3 = (f36.p0_e0 L N k z3).bind j := by
  unfold f36.p0_e0
  exact f36.p0_e0'_nat ..
theorem f36.b'_nat {R R' : Type} (j : R → Option R') (L N : Nat) (k : (List Int) → Option R) (w0 : (List Int) → Int → (List Int) → Option R) (x0 : (List Int)) :
    f36.b' L N (fun a0 => (k a0).bind j) (fun a0 a1 a2 => (w0 a0 a1 a2).bind j) x0 = (f36.b' L N k w0 x0).bind j := by
  unfold f36.b'
  repeat' (first | (with_reducible refine cond_nat ?_ ?_) | (with_reducible refine bind_nat fun _ => ?_) | rfl)
theorem f36.b_nat {R R' : Type} (j : R → Option R') (L N : Nat) (k : (List Int) → Option R) (x0 : (List Int)) :
    f36.b L N (fun a0 => (k a0).bind j) x0 = (f36.b L N k x0).bind j := by
  unfold f36.b
  simp only [f36.l0_nat, f36.p0_e0_nat]
  exact f36.b'_nat ..
theorem f36.ok (L N : Nat) (hΦ : TellsOk Try.prog ((Φ27 L N))) : EntOk Try.prog 36 (f36.ent L N) := by
  intro args vw site h
  unfold f36.ent
  split
  · rename_i d ha
    intro y hy hs
    refine call_ron (dep := 1000) (E := (E36 L N)) (ts := [(.sl i64)]) (rn := .row) (q := none) (el := 3) (ty := i64) (d1 := ()) (xs := y) (sound_of hΦ) okP (callI_sound (sound_of hΦ) okP 1 2000) (f := Try.f36) rfl hs ha ?_ rfl site
    refine (f36.b_eq L N (fun d xs => some (d, xs)) d.1).trans ?_
    refine ((f36.b_nat (fun y => (some ((), y) : Option (RN.Den .row × List Int))) L N some d.1)).trans ?_
    rw [show f36.b L N some d.1 = some y from hy]
    rfl
  · intro y hy
    cases hy
def Φ36 (L N : Nat) : Tells := (addT (Φ27 L N) 36 (f36.ent L N))
theorem Φ36_ok (L N : Nat) : TellsOk Try.prog (Φ36 L N) := addT_ok (Φ27_ok L N) (f36.ok L N (Φ27_ok L N))
def f96.b' {R : Type} (L N : Nat) (k : Bool → Option R) (x0 : Int) (x1 : Int) (x2 : Int) : Option R :=
  bif (decide (x0 ≥ x1)) then
    k (decide (x0 ≤ x2))
  else k false
def f96.b {R : Type} (L N : Nat) (k : Bool → Option R) (x0 : Int) (x1 : Int) (x2 : Int) : Option R :=
  f96.b' L N k x0 x1 x2
def f96 (L N : Nat) (x0 : Int) (x1 : Int) (x2 : Int) : Option (Bool) := f96.b L N some x0 x1 x2
def f96.ent (L N : Nat) (args : List AV) (vw : View) (site : Nat) : Ans := match roD [i64, i64, i64] vw args with
  | some d => ⟨Bool, f96 L N d.1 d.2.1 d.2.2.1, fun y => ((.tv .bool y), [], [])⟩
  | none => Ans.no
noncomputable def E96 (L N : Nat) : Env := { P := Try.prog, ty := tyOf, Φ := (Φ36 L N), inl := inlT, live := lives, liveX := livesX, L := L, dp := none, prom := promT, heal := healT, ren := renT }
theorem f96.b_pre {R : Type} (L N : Nat) (κ : AV → Option R) (x0 : Int) (x1 : Int) (x2 : Int) :
    evBody (E96 L N) (evCallI (E96 L N) 1 2000) 1000 96 Try.f96 [(.tv i64 x0), (.tv i64 x1), (.tv i64 x2)] [] [] (finC (.one .bool) κ)
    = f96.b' L N (fun a0 => κ (.tv .bool a0)) x0 x1 x2 := by kernel_rfl
theorem f96.b_eq {R : Type} (L N : Nat) (κ : AV → Option R) (x0 : Int) (x1 : Int) (x2 : Int) :
    evBody (E96 L N) (evCallI (E96 L N) 1 2000) 1000 96 Try.f96 [(.tv i64 x0), (.tv i64 x1), (.tv i64 x2)] [] [] (finC (.one .bool) κ)
    = f96.b L N (fun a0 => κ (.tv .bool a0)) x0 x1 x2 := by
  rw [f96.b_pre]
  unfold f96.b
  rfl
theorem f96.b'_nat {R R' : Type} (j : R → Option R') (L N : Nat) (k : Bool → Option R) (x0 : Int) (x1 : Int) (x2 : Int) :
    f96.b' L N (fun a0 => (k a0).bind j) x0 x1 x2 = (f96.b' L N k x0 x1 x2).bind j := by
  unfold f96.b'
  repeat' (first | (with_reducible refine cond_nat ?_ ?_) | (with_reducible refine bind_nat fun _ => ?_) | rfl)
theorem f96.b_nat {R R' : Type} (j : R → Option R') (L N : Nat) (k : Bool → Option R) (x0 : Int) (x1 : Int) (x2 : Int) :
    f96.b L N (fun a0 => (k a0).bind j) x0 x1 x2 = (f96.b L N k x0 x1 x2).bind j := by
  unfold f96.b
  exact f96.b'_nat ..
theorem f96.ok (L N : Nat) (hΦ : TellsOk Try.prog ((Φ36 L N))) : EntOk Try.prog 96 (f96.ent L N) := by
  intro args vw site h
  unfold f96.ent
  split
  · rename_i d ha
    intro y hy hs
    refine call_ro (dep := 1000) (E := (E96 L N)) (rs := (.one .bool)) (v := (.tv .bool y)) (sound_of hΦ) okP (callI_sound (sound_of hΦ) okP 1 2000) (f := Try.f96) rfl hs ha ?_ rfl site
    refine (f96.b_eq L N some d.1 d.2.1 d.2.2.1).trans ?_
    refine ((f96.b_nat (fun y => (some (.tv .bool y) : Option AV)) L N some d.1 d.2.1 d.2.2.1)).trans ?_
    rw [show f96.b L N some d.1 d.2.1 d.2.2.1 = some y from hy]
    rfl
  · intro y hy
    cases hy
def Φ96 (L N : Nat) : Tells := (addT (Φ36 L N) 96 (f96.ent L N))
theorem Φ96_ok (L N : Nat) : TellsOk Try.prog (Φ96 L N) := addT_ok (Φ36_ok L N) (f96.ok L N (Φ36_ok L N))
def f97.b' {R : Type} (L N : Nat) (k : Bool → Option R) (x0 : Int) : Option R :=
  (f96 L N x0 (-4 : Int) (4 : Int)).bind fun y0 =>
  k y0
def f97.b {R : Type} (L N : Nat) (k : Bool → Option R) (x0 : Int) : Option R :=
  f97.b' L N k x0
def f97 (L N : Nat) (x0 : Int) : Option (Bool) := f97.b L N some x0
def f97.ent (L N : Nat) (args : List AV) (vw : View) (site : Nat) : Ans := match roD [i64] vw args with
  | some d => ⟨Bool, f97 L N d.1, fun y => ((.tv .bool y), [], [])⟩
  | none => Ans.no
noncomputable def E97 (L N : Nat) : Env := { P := Try.prog, ty := tyOf, Φ := (Φ96 L N), inl := inlT, live := lives, liveX := livesX, L := L, dp := none, prom := promT, heal := healT, ren := renT }
theorem f97.b_pre {R : Type} (L N : Nat) (κ : AV → Option R) (x0 : Int) :
    evBody (E97 L N) (evCallI (E97 L N) 1 2000) 1000 97 Try.f97 [(.tv i64 x0)] [] [] (finC (.one .bool) κ)
    = f97.b' L N (fun a0 => κ (.tv .bool a0)) x0 := by kernel_rfl
theorem f97.b_eq {R : Type} (L N : Nat) (κ : AV → Option R) (x0 : Int) :
    evBody (E97 L N) (evCallI (E97 L N) 1 2000) 1000 97 Try.f97 [(.tv i64 x0)] [] [] (finC (.one .bool) κ)
    = f97.b L N (fun a0 => κ (.tv .bool a0)) x0 := by
  rw [f97.b_pre]
  unfold f97.b
  rfl
theorem f97.b'_nat {R R' : Type} (j : R → Option R') (L N : Nat) (k : Bool → Option R) (x0 : Int) :
    f97.b' L N (fun a0 => (k a0).bind j) x0 = (f97.b' L N k x0).bind j := by
  unfold f97.b'
  repeat' (first | (with_reducible refine cond_nat ?_ ?_) | (with_reducible refine bind_nat fun _ => ?_) | rfl)
theorem f97.b_nat {R R' : Type} (j : R → Option R') (L N : Nat) (k : Bool → Option R) (x0 : Int) :
    f97.b L N (fun a0 => (k a0).bind j) x0 = (f97.b L N k x0).bind j := by
  unfold f97.b
  exact f97.b'_nat ..
theorem f97.ok (L N : Nat) (hΦ : TellsOk Try.prog ((Φ96 L N))) : EntOk Try.prog 97 (f97.ent L N) := by
  intro args vw site h
  unfold f97.ent
  split
  · rename_i d ha
    intro y hy hs
    refine call_ro (dep := 1000) (E := (E97 L N)) (rs := (.one .bool)) (v := (.tv .bool y)) (sound_of hΦ) okP (callI_sound (sound_of hΦ) okP 1 2000) (f := Try.f97) rfl hs ha ?_ rfl site
    refine (f97.b_eq L N some d.1).trans ?_
    refine ((f97.b_nat (fun y => (some (.tv .bool y) : Option AV)) L N some d.1)).trans ?_
    rw [show f97.b L N some d.1 = some y from hy]
    rfl
  · intro y hy
    cases hy
def Φ97 (L N : Nat) : Tells := (addT (Φ96 L N) 97 (f97.ent L N))
theorem Φ97_ok (L N : Nat) : TellsOk Try.prog (Φ97 L N) := addT_ok (Φ96_ok L N) (f97.ok L N (Φ96_ok L N))
def f98.b' {R : Type} (L N : Nat) (k : Bool → Option R) (x0 : Move) (x1 : Move) : Option R :=
  bif (decide (x0.act < x1.act)) then
    k true
  else bif (x0.act == x1.act) then
    k (decide (x0.to < x1.to))
  else k false
def f98.b {R : Type} (L N : Nat) (k : Bool → Option R) (x0 : Move) (x1 : Move) : Option R :=
  f98.b' L N k x0 x1
def f98 (L N : Nat) (x0 : Move) (x1 : Move) : Option (Bool) := f98.b L N some x0 x1
def f98.ent (L N : Nat) (args : List AV) (vw : View) (site : Nat) : Ans := match roD [(.st 0), (.st 0)] vw args with
  | some d => ⟨Bool, f98 L N d.1 d.2.1, fun y => ((.tv .bool y), [], [])⟩
  | none => Ans.no
noncomputable def E98 (L N : Nat) : Env := { P := Try.prog, ty := tyOf, Φ := (Φ97 L N), inl := inlT, live := lives, liveX := livesX, L := L, dp := none, prom := promT, heal := healT, ren := renT }
theorem f98.b_pre {R : Type} (L N : Nat) (κ : AV → Option R) (x0 : Move) (x1 : Move) :
    evBody (E98 L N) (evCallI (E98 L N) 1 2000) 1000 98 Try.f98 [(.tv (.st 0) x0), (.tv (.st 0) x1)] [] [] (finC (.one .bool) κ)
    = f98.b' L N (fun a0 => κ (.tv .bool a0)) x0 x1 := by kernel_rfl
theorem f98.b_eq {R : Type} (L N : Nat) (κ : AV → Option R) (x0 : Move) (x1 : Move) :
    evBody (E98 L N) (evCallI (E98 L N) 1 2000) 1000 98 Try.f98 [(.tv (.st 0) x0), (.tv (.st 0) x1)] [] [] (finC (.one .bool) κ)
    = f98.b L N (fun a0 => κ (.tv .bool a0)) x0 x1 := by
  rw [f98.b_pre]
  unfold f98.b
  rfl
theorem f98.b'_nat {R R' : Type} (j : R → Option R') (L N : Nat) (k : Bool → Option R) (x0 : Move) (x1 : Move) :
    f98.b' L N (fun a0 => (k a0).bind j) x0 x1 = (f98.b' L N k x0 x1).bind j := by
  unfold f98.b'
  repeat' (first | (with_reducible refine cond_nat ?_ ?_) | (with_reducible refine bind_nat fun _ => ?_) | rfl)
theorem f98.b_nat {R R' : Type} (j : R → Option R') (L N : Nat) (k : Bool → Option R) (x0 : Move) (x1 : Move) :
    f98.b L N (fun a0 => (k a0).bind j) x0 x1 = (f98.b L N k x0 x1).bind j := by
  unfold f98.b
  exact f98.b'_nat ..
theorem f98.ok (L N : Nat) (hΦ : TellsOk Try.prog ((Φ97 L N))) : EntOk Try.prog 98 (f98.ent L N) := by
  intro args vw site h
  unfold f98.ent
  split
  · rename_i d ha
    intro y hy hs
    refine call_ro (dep := 1000) (E := (E98 L N)) (rs := (.one .bool)) (v := (.tv .bool y)) (sound_of hΦ) okP (callI_sound (sound_of hΦ) okP 1 2000) (f := Try.f98) rfl hs ha ?_ rfl site
    refine (f98.b_eq L N some d.1 d.2.1).trans ?_
    refine ((f98.b_nat (fun y => (some (.tv .bool y) : Option AV)) L N some d.1 d.2.1)).trans ?_
    rw [show f98.b L N some d.1 d.2.1 = some y from hy]
    rfl
  · intro y hy
    cases hy
def Φ98 (L N : Nat) : Tells := (addT (Φ97 L N) 98 (f98.ent L N))
theorem Φ98_ok (L N : Nat) : TellsOk Try.prog (Φ98 L N) := addT_ok (Φ97_ok L N) (f98.ok L N (Φ97_ok L N))
def f58.s1' {R : Type} (L N : Nat) (k1_e2 : Int → (List (List Move)) → Option R) (k1_r : Bool → Int → (List (List Move)) → Option R) (rec1 : Int → Int → (List (List Move)) → Option R) (s3 : Int) (s4 : Int) (s5 : (List (List Move))) : Option R :=
  bif (decide (0 ≤ s3) && decide (s3 < (s5.length : Int))) then
    bif (decide (s4 < ((listAt s5 [] s3.toNat).length : Int))) then
      bif (decide (0 ≤ s3) && decide (s3 < (s5.length : Int))) then
        bif (decide (0 ≤ s4) && decide (s4 < ((listAt s5 [] s3.toNat).length : Int))) then
          (f97 L N ((listAt (listAt s5 [] s3.toNat) (Ty.dflt (.st 0)) s4.toNat).act)).bind fun y8 =>
          bif (!y8) then
            k1_r false s3 s5
          else (f96 L N ((listAt (listAt s5 [] s3.toNat) (Ty.dflt (.st 0)) s4.toNat).to) (0 : Int) (wi ((s5.length : Int) - (1 : Int)))).bind fun y9 =>
          bif (!y9) then
            k1_r false s3 s5
          else bif (decide (s4 > (0 : Int))) then
            bif (decide (0 ≤ s3) && decide (s3 < (s5.length : Int))) then
              bif (decide (0 ≤ (wi (s4 - (1 : Int)))) && decide ((wi (s4 - (1 : Int))) < ((listAt s5 [] s3.toNat).length : Int))) then
                (f98 L N (listAt (listAt s5 [] s3.toNat) (Ty.dflt (.st 0)) (wi (s4 - (1 : Int))).toNat) (Move.mk ((listAt (listAt s5 [] s3.toNat) (Ty.dflt (.st 0)) s4.toNat).act) ((listAt (listAt s5 [] s3.toNat) (Ty.dflt (.st 0)) s4.toNat).to))).bind fun y10 =>
                bif (!y10) then
                  k1_r false s3 s5
                else rec1 s3 (wi (s4 + (1 : Int))) s5
              else none
            else none
          else rec1 s3 (wi (s4 + (1 : Int))) s5
        else none
      else none
    else k1_e2 s3 s5
  else none
def f58.s1 {R : Type} (L N : Nat) (k1_e2 : Int → (List (List Move)) → Option R) (k1_r : Bool → Int → (List (List Move)) → Option R) (rec1 : Int → Int → (List (List Move)) → Option R) (s3 : Int) (s4 : Int) (s5 : (List (List Move))) : Option R :=
  f58.s1' L N k1_e2 k1_r rec1 s3 s4 s5
def f58.l1 {R : Type} (L N : Nat) (k1_e2 : Int → (List (List Move)) → Option R) (k1_r : Bool → Int → (List (List Move)) → Option R) : Nat → Int → Int → (List (List Move)) → Option R
  | 0, _, _, _ => none
  | n + 1, s3, s4, s5 => f58.s1 L N k1_e2 k1_r (f58.l1 L N k1_e2 k1_r n) s3 s4 s5
def f58.T1 (s3 : Int) (s4 : Int) (s5 : (List (List Move))) : T := mkT 68 [(1, (.ptr 1001 0)), (3, (.tv i64 s3)), (4, (.tv i64 s4))]
def f58.H1 (s3 : Int) (s4 : Int) (s5 : (List (List Move))) : H := [(1001, (.box [(.tv (.sl (.sl (.st 0))) s5)]))]
def f58.T1_e2 (z6 : Int) (z7 : (List (List Move))) : T := mkT 68 [(1, (.ptr 1001 0)), (3, (.tv i64 z6))]
def f58.H1_e2 (z6 : Int) (z7 : (List (List Move))) : H := [(1001, (.box [(.tv (.sl (.sl (.st 0))) z7)]))]
def f58.T1_r (z15 : Bool) (z16 : Int) (z17 : (List (List Move))) : T := mkT 68 [(1, (.ptr 1001 0)), (2, (.tv .bool z15)), (3, (.tv i64 z16))]
def f58.H1_r (z15 : Bool) (z16 : Int) (z17 : (List (List Move))) : H := [(1001, (.box [(.tv (.sl (.sl (.st 0))) z17)]))]
def f58.p1_e2' {R : Type} (L N : Nat) (k0_e0 : Option R) (k0_r : Bool → Option R) (rec0 : Int → (List (List Move)) → Option R) (z6 : Int) (z7 : (List (List Move))) : Option R :=
  rec0 (wi (z6 + (1 : Int))) z7
def f58.p1_e2 {R : Type} (L N : Nat) (k0_e0 : Option R) (k0_r : Bool → Option R) (rec0 : Int → (List (List Move)) → Option R) (z6 : Int) (z7 : (List (List Move))) : Option R :=
  f58.p1_e2' L N k0_e0 k0_r rec0 z6 z7
def f58.p1_r' {R : Type} (L N : Nat) (k0_e0 : Option R) (k0_r : Bool → Option R) (rec0 : Int → (List (List Move)) → Option R) (z15 : Bool) (z16 : Int) (z17 : (List (List Move))) : Option R :=
  k0_r z15
def f58.p1_r {R : Type} (L N : Nat) (k0_e0 : Option R) (k0_r : Bool → Option R) (rec0 : Int → (List (List Move)) → Option R) (z15 : Bool) (z16 : Int) (z17 : (List (List Move))) : Option R :=
  f58.p1_r' L N k0_e0 k0_r rec0 z15 z16 z17
def f58.s0' {R : Type} (L N : Nat) (k0_e0 : Option R) (k0_r : Bool → Option R) (rec0 : Int → (List (List Move)) → Option R) (w1 : Int → Int → (List (List Move)) → Option R) (s1 : Int) (s2 : (List (List Move))) : Option R :=
  bif (decide (s1 < (s2.length : Int))) then
    w1 s1 (0 : Int) s2
  else k0_e0
def f58.s0 {R : Type} (L N : Nat) (k0_e0 : Option R) (k0_r : Bool → Option R) (rec0 : Int → (List (List Move)) → Option R) (s1 : Int) (s2 : (List (List Move))) : Option R :=
  f58.s0' L N k0_e0 k0_r rec0 (fun s3 s4 s5 => f58.l1 L N (fun z6 z7 => f58.p1_e2 L N k0_e0 k0_r rec0 z6 z7) (fun z15 z16 z17 => f58.p1_r L N k0_e0 k0_r rec0 z15 z16 z17) L s3 s4 s5) s1 s2
def f58.l0 {R : Type} (L N : Nat) (k0_e0 : Option R) (k0_r : Bool → Option R) : Nat → Int → (List (List Move)) → Option R
  | 0, _, _ => none
  | n + 1, s1, s2 => f58.s0 L N k0_e0 k0_r (f58.l0 L N k0_e0 k0_r n) s1 s2
def f58.T0 (s1 : Int) (s2 : (List (List Move))) : T := mkT 68 [(1, (.ptr 1001 0)), (3, (.tv i64 s1))]
def f58.H0 (s1 : Int) (s2 : (List (List Move))) : H := [(1001, (.box [(.tv (.sl (.sl (.st 0))) s2)]))]
def f58.T0_e0 : T := mkT 68 []
def f58.H0_e0 : H := []
def f58.T0_r (z21 : Bool) : T := mkT 68 [(2, (.tv .bool z21))]
def f58.H0_r (z21 : Bool) : H := []
def f58.p0_e0' {R : Type} (L N : Nat) (k : Bool → Option R) : Option R :=
  k true
def f58.p0_e0 {R : Type} (L N : Nat) (k : Bool → Option R) : Option R :=
  f58.p0_e0' L N k
def f58.p0_r' {R : Type} (L N : Nat) (k : Bool → Option R) (z21 : Bool) : Option R :=
  k z21
def f58.p0_r {R : Type} (L N : Nat) (k : Bool → Option R) (z21 : Bool) : Option R :=
  f58.p0_r' L N k z21
def f58.b' {R : Type} (L N : Nat) (k : Bool → Option R) (w0 : Int → (List (List Move)) → Option R) (x0 : Graph) : Option R :=
  (f96 L N (x0.moves.length : Int) (1 : Int) (60 : Int)).bind fun y0 =>
  bif (!y0) then
    k false
  else w0 (0 : Int) x0.moves
def f58.b {R : Type} (L N : Nat) (k : Bool → Option R) (x0 : Graph) : Option R :=
  f58.b' L N k (fun s1 s2 => f58.l0 L N (f58.p0_e0 L N k) (fun z21 => f58.p0_r L N k z21) L s1 s2) x0
def f58 (L N : Nat) (x0 : Graph) : Option (Bool) := f58.b L N some x0
def f58.ent (L N : Nat) (args : List AV) (vw : View) (site : Nat) : Ans := match roD [(.st 2)] vw args with
  | some d => ⟨Bool, f58 L N d.1, fun y => ((.tv .bool y), [], [])⟩
  | none => Ans.no
noncomputable def E58 (L N : Nat) : Env := { P := Try.prog, ty := tyOf, Φ := (Φ98 L N), inl := inlT, live := lives, liveX := livesX, L := L, dp := none, prom := promT, heal := healT, ren := renT }
noncomputable def f58.c0 : Code := loopAt 0 (codeOf Try.f58)
noncomputable def f58.c1 : Code := loopAt 2 f58.c0
theorem f58.s1_pre {R : Type} (L N : Nat) (κ : Ex → T → H → Option R) (rec : T → H → Option R) (s3 : Int) (s4 : Int) (s5 : (List (List Move))) :
    evRd (E58 L N) (evCallI (E58 L N) 1 2000) 1000 58 68 2 f58.c1 κ rec (f58.T1 s3 s4 s5) (f58.H1 s3 s4 s5)
    = f58.s1' L N (fun z6 z7 => κ (.exit 2) (f58.T1_e2 z6 z7) (f58.H1_e2 z6 z7)) (fun z15 z16 z17 => κ .ret (f58.T1_r z15 z16 z17) (f58.H1_r z15 z16 z17)) (fun s3 s4 s5 => rec (f58.T1 s3 s4 s5) (f58.H1 s3 s4 s5)) s3 s4 s5 := by kernel_rfl
theorem f58.s1_eq {R : Type} (L N : Nat) (κ : Ex → T → H → Option R) (rec : T → H → Option R) (s3 : Int) (s4 : Int) (s5 : (List (List Move))) :
    evRd (E58 L N) (evCallI (E58 L N) 1 2000) 1000 58 68 2 f58.c1 κ rec (f58.T1 s3 s4 s5) (f58.H1 s3 s4 s5)
    = f58.s1 L N (fun z6 z7 => κ (.exit 2) (f58.T1_e2 z6 z7) (f58.H1_e2 z6 z7)) (fun z15 z16 z17 => κ .ret (f58.T1_r z15 z16 z17) (f58.H1_r z15 z16 z17)) (fun s3 s4 s5 => rec (f58.T1 s3 s4 s5) (f58.H1 s3 s4 s5)) s3 s4 s5 := by
  rw [f58.s1_pre]
  unfold f58.s1
  rfl
theorem f58.l1_eq {R : Type} (L N : Nat) (κ : Ex → T → H → Option R) : ∀ (n : Nat) (s3 : Int) (s4 : Int) (s5 : (List (List Move))),
    evLp (E58 L N) (evCallI (E58 L N) 1 2000) 1000 58 68 2 f58.c1 κ n (f58.T1 s3 s4 s5) (f58.H1 s3 s4 s5)
    = f58.l1 L N (fun z6 z7 => κ (.exit 2) (f58.T1_e2 z6 z7) (f58.H1_e2 z6 z7)) (fun z15 z16 z17 => κ .ret (f58.T1_r z15 z16 z17) (f58.H1_r z15 z16 z17)) n s3 s4 s5 := by
  intro n
  induction n with
  | zero => intros; rfl
  | succ n ih =>
    intro s3 s4 s5
    rw [evLp_succ, f58.s1_eq]
    simp only [ih]
    rfl
theorem f58.p1_e2_pre {R : Type} (L N : Nat) (κ : Ex → T → H → Option R) (rec : T → H → Option R) (z6 : Int) (z7 : (List (List Move))) :
    (contAt (E58 L N) (evCallI (E58 L N) 1 2000) 1000 58 68 2 f58.c0 (stepK (outK (keepT 68 ((E58 L N).liveX 58 0).1) (keepH 1000 ((E58 L N).liveX 58 0).2) κ) fun t h => rec (backK 1000 68 ((E58 L N).live 58 0).1 ((E58 L N).live 58 0).2 ((E58 L N).heal 58 0) ((E58 L N).ren 58 0) t h).1 (backK 1000 68 ((E58 L N).live 58 0).1 ((E58 L N).live 58 0).2 ((E58 L N).heal 58 0) ((E58 L N).ren 58 0) t h).2)) (.exit 2) (f58.T1_e2 z6 z7) (f58.H1_e2 z6 z7)
    = f58.p1_e2' L N (κ (.exit 0) f58.T0_e0 f58.H0_e0) (fun z21 => κ .ret (f58.T0_r z21) (f58.H0_r z21)) (fun s1 s2 => rec (f58.T0 s1 s2) (f58.H0 s1 s2)) z6 z7 := by kernel_rfl
theorem f58.p1_e2_eq {R : Type} (L N : Nat) (κ : Ex → T → H → Option R) (rec : T → H → Option R) (z6 : Int) (z7 : (List (List Move))) :
    (contAt (E58 L N) (evCallI (E58 L N) 1 2000) 1000 58 68 2 f58.c0 (stepK (outK (keepT 68 ((E58 L N).liveX 58 0).1) (keepH 1000 ((E58 L N).liveX 58 0).2) κ) fun t h => rec (backK 1000 68 ((E58 L N).live 58 0).1 ((E58 L N).live 58 0).2 ((E58 L N).heal 58 0) ((E58 L N).ren 58 0) t h).1 (backK 1000 68 ((E58 L N).live 58 0).1 ((E58 L N).live 58 0).2 ((E58 L N).heal 58 0) ((E58 L N).ren 58 0) t h).2)) (.exit 2) (f58.T1_e2 z6 z7) (f58.H1_e2 z6 z7)
    = f58.p1_e2 L N (κ (.exit 0) f58.T0_e0 f58.H0_e0) (fun z21 => κ .ret (f58.T0_r z21) (f58.H0_r z21)) (fun s1 s2 => rec (f58.T0 s1 s2) (f58.H0 s1 s2)) z6 z7 := by
  rw [f58.p1_e2_pre]
  unfold f58.p1_e2
  rfl
theorem f58.p1_r_pre {R : Type} (L N : Nat) (κ : Ex → T → H → Option R) (rec : T → H → Option R) (z15 : Bool) (z16 : Int) (z17 : (List (List Move))) :
    (contAt (E58 L N) (evCallI (E58 L N) 1 2000) 1000 58 68 2 f58.c0 (stepK (outK (keepT 68 ((E58 L N).liveX 58 0).1) (keepH 1000 ((E58 L N).liveX 58 0).2) κ) fun t h => rec (backK 1000 68 ((E58 L N).live 58 0).1 ((E58 L N).live 58 0).2 ((E58 L N).heal 58 0) ((E58 L N).ren 58 0) t h).1 (backK 1000 68 ((E58 L N).live 58 0).1 ((E58 L N).live 58 0).2 ((E58 L N).heal 58 0) ((E58 L N).ren 58 0) t h).2)) .ret (f58.T1_r z15 z16 z17) (f58.H1_r z15 z16 z17)
    = f58.p1_r' L N (κ (.exit 0) f58.T0_e0 f58.H0_e0) (fun z21 => κ .ret (f58.T0_r z21) (f58.H0_r z21)) (fun s1 s2 => rec (f58.T0 s1 s2) (f58.H0 s1 s2)) z15 z16 z17 := by kernel_rfl
theorem f58.p1_r_eq {R : Type} (L N : Nat) (κ : Ex → T → H → Option R) (rec : T → H → Option R) (z15 : Bool) (z16 : Int) (z17 : (List (List Move))) :
    (contAt (E58 L N) (evCallI (E58 L N) 1 2000) 1000 58 68 2 f58.c0 (stepK (outK (keepT 68 ((E58 L N).liveX 58 0).1) (keepH 1000 ((E58 L N).liveX 58 0).2) κ) fun t h => rec (backK 1000 68 ((E58 L N).live 58 0).1 ((E58 L N).live 58 0).2 ((E58 L N).heal 58 0) ((E58 L N).ren 58 0) t h).1 (backK 1000 68 ((E58 L N).live 58 0).1 ((E58 L N).live 58 0).2 ((E58 L N).heal 58 0) ((E58 L N).ren 58 0) t h).2)) .ret (f58.T1_r z15 z16 z17) (f58.H1_r z15 z16 z17)
    = f58.p1_r L N (κ (.exit 0) f58.T0_e0 f58.H0_e0) (fun z21 => κ .ret (f58.T0_r z21) (f58.H0_r z21)) (fun s1 s2 => rec (f58.T0 s1 s2) (f58.H0 s1 s2)) z15 z16 z17 := by
  rw [f58.p1_r_pre]
  unfold f58.p1_r
  rfl
theorem f58.s0_pre {R : Type} (L N : Nat) (κ : Ex → T → H → Option R) (rec : T → H → Option R) (s1 : Int) (s2 : (List (List Move))) :
    evRd (E58 L N) (evCallI (E58 L N) 1 2000) 1000 58 68 0 f58.c0 κ rec (f58.T0 s1 s2) (f58.H0 s1 s2)
    = f58.s0' L N (κ (.exit 0) f58.T0_e0 f58.H0_e0) (fun z21 => κ .ret (f58.T0_r z21) (f58.H0_r z21)) (fun s1 s2 => rec (f58.T0 s1 s2) (f58.H0 s1 s2)) (fun s3 s4 s5 => evLp (E58 L N) (evCallI (E58 L N) 1 2000) 1000 58 68 2 f58.c1 (contAt (E58 L N) (evCallI (E58 L N) 1 2000) 1000 58 68 2 f58.c0 (stepK (outK (keepT 68 ((E58 L N).liveX 58 0).1) (keepH 1000 ((E58 L N).liveX 58 0).2) κ) fun t h => rec (backK 1000 68 ((E58 L N).live 58 0).1 ((E58 L N).live 58 0).2 ((E58 L N).heal 58 0) ((E58 L N).ren 58 0) t h).1 (backK 1000 68 ((E58 L N).live 58 0).1 ((E58 L N).live 58 0).2 ((E58 L N).heal 58 0) ((E58 L N).ren 58 0) t h).2)) L (f58.T1 s3 s4 s5) (f58.H1 s3 s4 s5)) s1 s2 := by kernel_rfl
theorem f58.s0_eq {R : Type} (L N : Nat) (κ : Ex → T → H → Option R) (rec : T → H → Option R) (s1 : Int) (s2 : (List (List Move))) :
    evRd (E58 L N) (evCallI (E58 L N) 1 2000) 1000 58 68 0 f58.c0 κ rec (f58.T0 s1 s2) (f58.H0 s1 s2)
    = f58.s0 L N (κ (.exit 0) f58.T0_e0 f58.H0_e0) (fun z21 => κ .ret (f58.T0_r z21) (f58.H0_r z21)) (fun s1 s2 => rec (f58.T0 s1 s2) (f58.H0 s1 s2)) s1 s2 := by
  rw [f58.s0_pre]
  unfold f58.s0
  simp only [f58.l1_eq, f58.p1_e2_eq, f58.p1_r_eq]
theorem f58.l0_eq {R : Type} (L N : Nat) (κ : Ex → T → H → Option R) : ∀ (n : Nat) (s1 : Int) (s2 : (List (List Move))),
    evLp (E58 L N) (evCallI (E58 L N) 1 2000) 1000 58 68 0 f58.c0 κ n (f58.T0 s1 s2) (f58.H0 s1 s2)
    = f58.l0 L N (κ (.exit 0) f58.T0_e0 f58.H0_e0) (fun z21 => κ .ret (f58.T0_r z21) (f58.H0_r z21)) n s1 s2 := by
  intro n
  induction n with
  | zero => intros; rfl
  | succ n ih =>
    intro s1 s2
    rw [evLp_succ, f58.s0_eq]
    simp only [ih]
    rfl
theorem f58.p0_e0_pre {R : Type} (L N : Nat) (κ : AV → Option R) :
    (contAt (E58 L N) (evCallI (E58 L N) 1 2000) 1000 58 68 0 (codeOf Try.f58) (finK (E58 L N) 1000 Try.f58 (finC (.one .bool) κ))) (.exit 0) f58.T0_e0 f58.H0_e0
    = f58.p0_e0' L N (fun a0 => κ (.tv .bool a0)) := by kernel_rfl
theorem f58.p0_e0_eq {R : Type} (L N : Nat) (κ : AV → Option R) :
    (contAt (E58 L N) (evCallI (E58 L N) 1 2000) 1000 58 68 0 (codeOf Try.f58) (finK (E58 L N) 1000 Try.f58 (finC (.one .bool) κ))) (.exit 0) f58.T0_e0 f58.H0_e0
    = f58.p0_e0 L N (fun a0 => κ (.tv .bool a0)) := by
  rw [f58.p0_e0_pre]
  unfold f58.p0_e0
  rfl
theorem f58.p0_r_pre {R : Type} (L N : Nat) (κ : AV → Option R) (z21 : Bool) :
    (contAt (E58 L N) (evCallI (E58 L N) 1 2000) 1000 58 68 0 (codeOf Try.f58) (finK (E58 L N) 1000 Try.f58 (finC (.one .bool) κ))) .ret (f58.T0_r z21) (f58.H0_r z21)
    = f58.p0_r' L N (fun a0 => κ (.tv .bool a0)) z21 := by kernel_rfl
theorem f58.p0_r_eq {R : Type} (L N : Nat) (κ : AV → Option R) (z21 : Bool) :
    (contAt (E58 L N) (evCallI (E58 L N) 1 2000) 1000 58 68 0 (codeOf Try.f58) (finK (E58 L N) 1000 Try.f58 (finC (.one .bool) κ))) .ret (f58.T0_r z21) (f58.H0_r z21)
    = f58.p0_r L N (fun a0 => κ (.tv .bool a0)) z21 := by
  rw [f58.p0_r_pre]
  unfold f58.p0_r
  rfl
theorem f58.b_pre {R : Type} (L N : Nat) (κ : AV → Option R) (x0 : Graph) :
    evBody (E58 L N) (evCallI (E58 L N) 1 2000) 1000 58 Try.f58 [(.tv (.st 2) x0)] [] [] (finC (.one .bool) κ)
    = f58.b' L N (fun a0 => κ (.tv .bool a0)) (fun s1 s2 => evLp (E58 L N) (evCallI (E58 L N) 1 2000) 1000 58 68 0 f58.c0 (contAt (E58 L N) (evCallI (E58 L N) 1 2000) 1000 58 68 0 (codeOf Try.f58) (finK (E58 L N) 1000 Try.f58 (finC (.one .bool) κ))) L (f58.T0 s1 s2) (f58.H0 s1 s2)) x0 := by kernel_rfl
theorem f58.b_eq {R : Type} (L N : Nat) (κ : AV → Option R) (x0 : Graph) :
    evBody (E58 L N) (evCallI (E58 L N) 1 2000) 1000 58 Try.f58 [(.tv (.st 2) x0)] [] [] (finC (.one .bool) κ)
    = f58.b L N (fun a0 => κ (.tv .bool a0)) x0 := by
  rw [f58.b_pre]
  unfold f58.b
  simp only [f58.l0_eq, f58.p0_e0_eq, f58.p0_r_eq]
theorem f58.s1'_nat {R R' : Type} (j : R → Option R') (L N : Nat) (k1_e2 : Int → (List (List Move)) → Option R) (k1_r : Bool → Int → (List (List Move)) → Option R) (rec1 : Int → Int → (List (List Move)) → Option R) (s3 : Int) (s4 : Int) (s5 : (List (List Move))) :
    f58.s1' L N (fun a0 a1 => (k1_e2 a0 a1).bind j) (fun a0 a1 a2 => (k1_r a0 a1 a2).bind j) (fun a0 a1 a2 => (rec1 a0 a1 a2).bind j) s3 s4 s5 = (f58.s1' L N k1_e2 k1_r rec1 s3 s4 s5).bind j := by
  unfold f58.s1'
  repeat' (first | (with_reducible refine cond_nat ?_ ?_) | (with_reducible refine bind_nat fun _ => ?_) | rfl)
theorem f58.s1_nat {R R' : Type} (j : R → Option R') (L N : Nat) (k1_e2 : Int → (List (List Move)) → Option R) (k1_r : Bool → Int → (List (List Move)) → Option R) (rec1 : Int → Int → (List (List Move)) → Option R) (s3 : Int) (s4 : Int) (s5 : (List (List Move))) :
    f58.s1 L N (fun a0 a1 => (k1_e2 a0 a1).bind j) (fun a0 a1 a2 => (k1_r a0 a1 a2).bind j) (fun a0 a1 a2 => (rec1 a0 a1 a2).bind j) s3 s4 s5 = (f58.s1 L N k1_e2 k1_r rec1 s3 s4 s5).bind j := by
  unfold f58.s1
  exact f58.s1'_nat ..
theorem f58.l1_nat {R R' : Type} (j : R → Option R') (L N : Nat) (k1_e2 : Int → (List (List Move)) → Option R) (k1_r : Bool → Int → (List (List Move)) → Option R) : ∀ (n : Nat) (s3 : Int) (s4 : Int) (s5 : (List (List Move))),
    f58.l1 L N (fun a0 a1 => (k1_e2 a0 a1).bind j) (fun a0 a1 a2 => (k1_r a0 a1 a2).bind j) n s3 s4 s5 = (f58.l1 L N k1_e2 k1_r n s3 s4 s5).bind j := by
  intro n
  induction n with
  | zero => intros; rfl
  | succ n ih =>
    intro s3 s4 s5
    show f58.s1 L N (fun a0 a1 => (k1_e2 a0 a1).bind j) (fun a0 a1 a2 => (k1_r a0 a1 a2).bind j) (f58.l1 L N (fun a0 a1 => (k1_e2 a0 a1).bind j) (fun a0 a1 a2 => (k1_r a0 a1 a2).bind j) n) s3 s4 s5 = _
    rw [show f58.l1 L N (fun a0 a1 => (k1_e2 a0 a1).bind j) (fun a0 a1 a2 => (k1_r a0 a1 a2).bind j) n = (fun s3 s4 s5 => (f58.l1 L N k1_e2 k1_r n s3 s4 s5).bind j) from funext fun s3 => funext fun s4 => funext fun s5 => ih s3 s4 s5]
    exact f58.s1_nat ..
theorem f58.p1_e2'_nat {R R' : Type} (j : R → Option R') (L N : Nat) (k0_e0 : Option R) (k0_r : Bool → Option R) (rec0 : Int → (List (List Move)) → Option R) (z6 : Int) (z7 : (List (List Move))) :
    f58.p1_e2' L N (k0_e0.bind j) (fun a0 => (k0_r a0).bind j) (fun a0 a1 => (rec0 a0 a1).bind j) z6 z7 = (f58.p1_e2' L N k0_e0 k0_r rec0 z6 z7).bind j := by
  unfold f58.p1_e2'
  repeat' (first | (with_reducible refine cond_nat ?_ ?_) | (with_reducible refine bind_nat fun _ => ?_) | rfl)
theorem f58.p1_e2_nat {R R' : Type} (j : R → Option R') (L N : Nat) (k0_e0 : Option R) (k0_r : Bool → Option R) (rec0 : Int → (List (List Move)) → Option R) (z6 : Int) (z7 : (List (List Move))) :
    f58.p1_e2 L N (k0_e0.bind j) (fun a0 => (k0_r a0).bind j) (fun a0 a1 => (rec0 a0 a1).bind j) z6 z7 = (f58.p1_e2 L N k0_e0 k0_r rec0 z6 z7).bind j := by
  unfold f58.p1_e2
  exact f58.p1_e2'_nat ..
theorem f58.p1_r'_nat {R R' : Type} (j : R → Option R') (L N : Nat) (k0_e0 : Option R) (k0_r : Bool → Option R) (rec0 : Int → (List (List Move)) → Option R) (z15 : Bool) (z16 : Int) (z17 : (List (List Move))) :
    f58.p1_r' L N (k0_e0.bind j) (fun a0 => (k0_r a0).bind j) (fun a0 a1 => (rec0 a0 a1).bind j) z15 z16 z17 = (f58.p1_r' L N k0_e0 k0_r rec0 z15 z16 z17).bind j := by
  unfold f58.p1_r'
  repeat' (first | (with_reducible refine cond_nat ?_ ?_) | (with_reducible refine bind_nat fun _ => ?_) | rfl)
theorem f58.p1_r_nat {R R' : Type} (j : R → Option R') (L N : Nat) (k0_e0 : Option R) (k0_r : Bool → Option R) (rec0 : Int → (List (List Move)) → Option R) (z15 : Bool) (z16 : Int) (z17 : (List (List Move))) :
    f58.p1_r L N (k0_e0.bind j) (fun a0 => (k0_r a0).bind j) (fun a0 a1 => (rec0 a0 a1).bind j) z15 z16 z17 = (f58.p1_r L N k0_e0 k0_r rec0 z15 z16 z17).bind j := by
  unfold f58.p1_r
  exact f58.p1_r'_nat ..
theorem f58.s0'_nat {R R' : Type} (j : R → Option R') (L N : Nat) (k0_e0 : Option R) (k0_r : Bool → Option R) (rec0 : Int → (List (List Move)) → Option R) (w1 : Int → Int → (List (List Move)) → Option R) (s1 : Int) (s2 : (List (List Move))) :
    f58.s0' L N (k0_e0.bind j) (fun a0 => (k0_r a0).bind j) (fun a0 a1 => (rec0 a0 a1).bind j) (fun a0 a1 a2 => (w1 a0 a1 a2).bind j) s1 s2 = (f58.s0' L N k0_e0 k0_r rec0 w1 s1 s2).bind j := by
  unfold f58.s0'
  repeat' (first | (with_reducible refine cond_nat ?_ ?_) | (with_reducible refine bind_nat fun _ => ?_) | rfl)
theorem f58.s0_nat {R R' : Type} (j : R → Option R') (L N : Nat) (k0_e0 : Option R) (k0_r : Bool → Option R) (rec0 : Int → (List (List Move)) → Option R) (s1 : Int) (s2 : (List (List Move))) :
    f58.s0 L N (k0_e0.bind j) (fun a0 => (k0_r a0).bind j) (fun a0 a1 => (rec0 a0 a1).bind j) s1 s2 = (f58.s0 L N k0_e0 k0_r rec0 s1 s2).bind j := by
  unfold f58.s0
  simp only [f58.l1_nat, f58.p1_e2_nat, f58.p1_r_nat]
  exact f58.s0'_nat ..
theorem f58.l0_nat {R R' : Type} (j : R → Option R') (L N : Nat) (k0_e0 : Option R) (k0_r : Bool → Option R) : ∀ (n : Nat) (s1 : Int) (s2 : (List (List Move))),
    f58.l0 L N (k0_e0.bind j) (fun a0 => (k0_r a0).bind j) n s1 s2 = (f58.l0 L N k0_e0 k0_r n s1 s2).bind j := by
  intro n
  induction n with
  | zero => intros; rfl
  | succ n ih =>
    intro s1 s2
    show f58.s0 L N (k0_e0.bind j) (fun a0 => (k0_r a0).bind j) (f58.l0 L N (k0_e0.bind j) (fun a0 => (k0_r a0).bind j) n) s1 s2 = _
    rw [show f58.l0 L N (k0_e0.bind j) (fun a0 => (k0_r a0).bind j) n = (fun s1 s2 => (f58.l0 L N k0_e0 k0_r n s1 s2).bind j) from funext fun s1 => funext fun s2 => ih s1 s2]
    exact f58.s0_nat ..
theorem f58.p0_e0'_nat {R R' : Type} (j : R → Option R') (L N : Nat) (k : Bool → Option R) :
    f58.p0_e0' L N (fun a0 => (k a0).bind j) = (f58.p0_e0' L N k).bind j := by
  unfold f58.p0_e0'
  repeat' (first | (with_reducible refine cond_nat ?_ ?_) | (with_reducible refine bind_nat fun _ => ?_) | rfl)
theorem f58.p0_e0_nat {R R' : Type} (j : R → Option R') (L N : Nat) (k : Bool → Option R) :
    f58.p0_e0 L N (fun a0 => (k a0).bind j) = (f58.p0_e0 L N k).bind j := by
  unfold f58.p0_e0
  exact f58.p0_e0'_nat ..
theorem f58.p0_r'_nat {R R' : Type} (j : R → Option R') (L N : Nat) (k : Bool → Option R) (z21 : Bool) :
    f58.p0_r' L N (fun a0 => (k a0).bind j) z21 = (f58.p0_r' L N k z21).bind j := by
  unfold f58.p0_r'
  repeat' (first | (with_reducible refine cond_nat ?_ ?_) | (with_reducible refine bind_nat fun _ => ?_) | rfl)
theorem f58.p0_r_nat {R R' : Type} (j : R → Option R') (L N : Nat) (k : Bool → Option R) (z21 : Bool) :
    f58.p0_r L N (fun a0 => (k a0).bind j) z21 = (f58.p0_r L N k z21).bind j := by
  unfold f58.p0_r
  exact f58.p0_r'_nat ..
theorem f58.b'_nat {R R' : Type} (j : R → Option R') (L N : Nat) (k : Bool → Option R) (w0 : Int → (List (List Move)) → Option R) (x0 : Graph) :
    f58.b' L N (fun a0 => (k a0).bind j) (fun a0 a1 => (w0 a0 a1).bind j) x0 = (f58.b' L N k w0 x0).bind j := by
  unfold f58.b'
  repeat' (first | (with_reducible refine cond_nat ?_ ?_) | (with_reducible refine bind_nat fun _ => ?_) | rfl)
theorem f58.b_nat {R R' : Type} (j : R → Option R') (L N : Nat) (k : Bool → Option R) (x0 : Graph) :
    f58.b L N (fun a0 => (k a0).bind j) x0 = (f58.b L N k x0).bind j := by
  unfold f58.b
  simp only [f58.l0_nat, f58.p0_e0_nat, f58.p0_r_nat]
  exact f58.b'_nat ..
theorem f58.ok (L N : Nat) (hΦ : TellsOk Try.prog ((Φ98 L N))) : EntOk Try.prog 58 (f58.ent L N) := by
  intro args vw site h
  unfold f58.ent
  split
  · rename_i d ha
    intro y hy hs
    refine call_ro (dep := 1000) (E := (E58 L N)) (rs := (.one .bool)) (v := (.tv .bool y)) (sound_of hΦ) okP (callI_sound (sound_of hΦ) okP 1 2000) (f := Try.f58) rfl hs ha ?_ rfl site
    refine (f58.b_eq L N some d.1).trans ?_
    refine ((f58.b_nat (fun y => (some (.tv .bool y) : Option AV)) L N some d.1)).trans ?_
    rw [show f58.b L N some d.1 = some y from hy]
    rfl
  · intro y hy
    cases hy
def Φ58 (L N : Nat) : Tells := (addT (Φ98 L N) 58 (f58.ent L N))
theorem Φ58_ok (L N : Nat) : TellsOk Try.prog (Φ58 L N) := addT_ok (Φ98_ok L N) (f58.ok L N (Φ98_ok L N))
def f74.s0' {R : Type} (L N : Nat) (k0_e0 : (List Int) → Option R) (k0_r : (List Int) → Bool → Option R) (rec0 : (List Int) → Int → Option R) (s0 : (List Int)) (s1 : Int) : Option R :=
  bif (decide (s1 < (s0.length : Int))) then
    bif (decide (0 ≤ s1) && decide (s1 < (s0.length : Int))) then
      (f97 L N (listAt s0 (0 : Int) s1.toNat)).bind fun y3 =>
      bif (!y3) then
        k0_r s0 false
      else bif (decide (0 ≤ s1) && decide (s1 < (s0.length : Int))) then
        bif ((listAt s0 (0 : Int) s1.toNat) == (0 : Int)) then
          k0_r s0 false
        else rec0 s0 (wi (s1 + (1 : Int)))
      else none
    else none
  else k0_e0 s0
def f74.s0 {R : Type} (L N : Nat) (k0_e0 : (List Int) → Option R) (k0_r : (List Int) → Bool → Option R) (rec0 : (List Int) → Int → Option R) (s0 : (List Int)) (s1 : Int) : Option R :=
  f74.s0' L N k0_e0 k0_r rec0 s0 s1
def f74.l0 {R : Type} (L N : Nat) (k0_e0 : (List Int) → Option R) (k0_r : (List Int) → Bool → Option R) : Nat → (List Int) → Int → Option R
  | 0, _, _ => none
  | n + 1, s0, s1 => f74.s0 L N k0_e0 k0_r (f74.l0 L N k0_e0 k0_r n) s0 s1
def f74.T0 (s0 : (List Int)) (s1 : Int) : T := mkT 26 [(0, (.tv (.sl i64) s0)), (3, (.tv i64 s1))]
def f74.H0 (s0 : (List Int)) (s1 : Int) : H := []
def f74.T0_e0 (z2 : (List Int)) : T := mkT 26 [(0, (.tv (.sl i64) z2))]
def f74.H0_e0 (z2 : (List Int)) : H := []
def f74.T0_r (z7 : (List Int)) (z8 : Bool) : T := mkT 26 [(0, (.tv (.sl i64) z7)), (2, (.tv .bool z8))]
def f74.H0_r (z7 : (List Int)) (z8 : Bool) : H := []
def f74.p0_e0' {R : Type} (L N : Nat) (k : Bool → Option R) (z2 : (List Int)) : Option R :=
  k (decide ((z2.length : Int) ≤ (20 : Int)))
def f74.p0_e0 {R : Type} (L N : Nat) (k : Bool → Option R) (z2 : (List Int)) : Option R :=
  f74.p0_e0' L N k z2
def f74.p0_r' {R : Type} (L N : Nat) (k : Bool → Option R) (z7 : (List Int)) (z8 : Bool) : Option R :=
  k z8
def f74.p0_r {R : Type} (L N : Nat) (k : Bool → Option R) (z7 : (List Int)) (z8 : Bool) : Option R :=
  f74.p0_r' L N k z7 z8
def f74.b' {R : Type} (L N : Nat) (k : Bool → Option R) (w0 : (List Int) → Int → Option R) (x0 : (List Int)) : Option R :=
  w0 x0 (0 : Int)
def f74.b {R : Type} (L N : Nat) (k : Bool → Option R) (x0 : (List Int)) : Option R :=
  f74.b' L N k (fun s0 s1 => f74.l0 L N (fun z2 => f74.p0_e0 L N k z2) (fun z7 z8 => f74.p0_r L N k z7 z8) L s0 s1) x0
def f74 (L N : Nat) (x0 : (List Int)) : Option (Bool) := f74.b L N some x0
def f74.ent (L N : Nat) (args : List AV) (vw : View) (site : Nat) : Ans := match roD [(.sl i64)] vw args with
  | some d => ⟨Bool, f74 L N d.1, fun y => ((.tv .bool y), [], [])⟩
  | none => Ans.no
noncomputable def E74 (L N : Nat) : Env := { P := Try.prog, ty := tyOf, Φ := (Φ58 L N), inl := inlT, live := lives, liveX := livesX, L := L, dp := none, prom := promT, heal := healT, ren := renT }
noncomputable def f74.c0 : Code := loopAt 0 (codeOf Try.f74)
theorem f74.s0_pre {R : Type} (L N : Nat) (κ : Ex → T → H → Option R) (rec : T → H → Option R) (s0 : (List Int)) (s1 : Int) :
    evRd (E74 L N) (evCallI (E74 L N) 1 2000) 1000 74 26 0 f74.c0 κ rec (f74.T0 s0 s1) (f74.H0 s0 s1)
    = f74.s0' L N (fun z2 => κ (.exit 0) (f74.T0_e0 z2) (f74.H0_e0 z2)) (fun z7 z8 => κ .ret (f74.T0_r z7 z8) (f74.H0_r z7 z8)) (fun s0 s1 => rec (f74.T0 s0 s1) (f74.H0 s0 s1)) s0 s1 := by kernel_rfl
theorem f74.s0_eq {R : Type} (L N : Nat) (κ : Ex → T → H → Option R) (rec : T → H → Option R) (s0 : (List Int)) (s1 : Int) :
    evRd (E74 L N) (evCallI (E74 L N) 1 2000) 1000 74 26 0 f74.c0 κ rec (f74.T0 s0 s1) (f74.H0 s0 s1)
    = f74.s0 L N (fun z2 => κ (.exit 0) (f74.T0_e0 z2) (f74.H0_e0 z2)) (fun z7 z8 => κ .ret (f74.T0_r z7 z8) (f74.H0_r z7 z8)) (fun s0 s1 => rec (f74.T0 s0 s1) (f74.H0 s0 s1)) s0 s1 := by
  rw [f74.s0_pre]
  unfold f74.s0
  rfl
theorem f74.l0_eq {R : Type} (L N : Nat) (κ : Ex → T → H → Option R) : ∀ (n : Nat) (s0 : (List Int)) (s1 : Int),
    evLp (E74 L N) (evCallI (E74 L N) 1 2000) 1000 74 26 0 f74.c0 κ n (f74.T0 s0 s1) (f74.H0 s0 s1)
    = f74.l0 L N (fun z2 => κ (.exit 0) (f74.T0_e0 z2) (f74.H0_e0 z2)) (fun z7 z8 => κ .ret (f74.T0_r z7 z8) (f74.H0_r z7 z8)) n s0 s1 := by
  intro n
  induction n with
  | zero => intros; rfl
  | succ n ih =>
    intro s0 s1
    rw [evLp_succ, f74.s0_eq]
    simp only [ih]
    rfl
theorem f74.p0_e0_pre {R : Type} (L N : Nat) (κ : AV → Option R) (z2 : (List Int)) :
    (contAt (E74 L N) (evCallI (E74 L N) 1 2000) 1000 74 26 0 (codeOf Try.f74) (finK (E74 L N) 1000 Try.f74 (finC (.one .bool) κ))) (.exit 0) (f74.T0_e0 z2) (f74.H0_e0 z2)
    = f74.p0_e0' L N (fun a0 => κ (.tv .bool a0)) z2 := by kernel_rfl
theorem f74.p0_e0_eq {R : Type} (L N : Nat) (κ : AV → Option R) (z2 : (List Int)) :
    (contAt (E74 L N) (evCallI (E74 L N) 1 2000) 1000 74 26 0 (codeOf Try.f74) (finK (E74 L N) 1000 Try.f74 (finC (.one .bool) κ))) (.exit 0) (f74.T0_e0 z2) (f74.H0_e0 z2)
    = f74.p0_e0 L N (fun a0 => κ (.tv .bool a0)) z2 := by
  rw [f74.p0_e0_pre]
  unfold f74.p0_e0
  rfl
theorem f74.p0_r_pre {R : Type} (L N : Nat) (κ : AV → Option R) (z7 : (List Int)) (z8 : Bool) :
    (contAt (E74 L N) (evCallI (E74 L N) 1 2000) 1000 74 26 0 (codeOf Try.f74) (finK (E74 L N) 1000 Try.f74 (finC (.one .bool) κ))) .ret (f74.T0_r z7 z8) (f74.H0_r z7 z8)
    = f74.p0_r' L N (fun a0 => κ (.tv .bool a0)) z7 z8 := by kernel_rfl
theorem f74.p0_r_eq {R : Type} (L N : Nat) (κ : AV → Option R) (z7 : (List Int)) (z8 : Bool) :
    (contAt (E74 L N) (evCallI (E74 L N) 1 2000) 1000 74 26 0 (codeOf Try.f74) (finK (E74 L N) 1000 Try.f74 (finC (.one .bool) κ))) .ret (f74.T0_r z7 z8) (f74.H0_r z7 z8)
    = f74.p0_r L N (fun a0 => κ (.tv .bool a0)) z7 z8 := by
  rw [f74.p0_r_pre]
  unfold f74.p0_r
  rfl
theorem f74.b_pre {R : Type} (L N : Nat) (κ : AV → Option R) (x0 : (List Int)) :
    evBody (E74 L N) (evCallI (E74 L N) 1 2000) 1000 74 Try.f74 [(.tv (.sl i64) x0)] [] [] (finC (.one .bool) κ)
    = f74.b' L N (fun a0 => κ (.tv .bool a0)) (fun s0 s1 => evLp (E74 L N) (evCallI (E74 L N) 1 2000) 1000 74 26 0 f74.c0 (contAt (E74 L N) (evCallI (E74 L N) 1 2000) 1000 74 26 0 (codeOf Try.f74) (finK (E74 L N) 1000 Try.f74 (finC (.one .bool) κ))) L (f74.T0 s0 s1) (f74.H0 s0 s1)) x0 := by kernel_rfl
theorem f74.b_eq {R : Type} (L N : Nat) (κ : AV → Option R) (x0 : (List Int)) :
    evBody (E74 L N) (evCallI (E74 L N) 1 2000) 1000 74 Try.f74 [(.tv (.sl i64) x0)] [] [] (finC (.one .bool) κ)
    = f74.b L N (fun a0 => κ (.tv .bool a0)) x0 := by
  rw [f74.b_pre]
  unfold f74.b
  simp only [f74.l0_eq, f74.p0_e0_eq, f74.p0_r_eq]
theorem f74.s0'_nat {R R' : Type} (j : R → Option R') (L N : Nat) (k0_e0 : (List Int) → Option R) (k0_r : (List Int) → Bool → Option R) (rec0 : (List Int) → Int → Option R) (s0 : (List Int)) (s1 : Int) :
    f74.s0' L N (fun a0 => (k0_e0 a0).bind j) (fun a0 a1 => (k0_r a0 a1).bind j) (fun a0 a1 => (rec0 a0 a1).bind j) s0 s1 = (f74.s0' L N k0_e0 k0_r rec0 s0 s1).bind j := by
  unfold f74.s0'
  repeat' (first | (with_reducible refine cond_nat ?_ ?_) | (with_reducible refine bind_nat fun _ => ?_) | rfl)
theorem f74.s0_nat {R R' : Type} (j : R → Option R') (L N : Nat) (k0_e0 : (List Int) → Option R) (k0_r : (List Int) → Bool → Option R) (rec0 : (List Int) → Int → Option R) (s0 : (List Int)) (s1 : Int) :
    f74.s0 L N (fun a0 => (k0_e0 a0).bind j) (fun a0 a1 => (k0_r a0 a1).bind j) (fun a0 a1 => (rec0 a0 a1).bind j) s0 s1 = (f74.s0 L N k0_e0 k0_r rec0 s0 s1).bind j := by
  unfold f74.s0
  exact f74.s0'_nat ..
theorem f74.l0_nat {R R' : Type} (j : R → Option R') (L N : Nat) (k0_e0 : (List Int) → Option R) (k0_r : (List Int) → Bool → Option R) : ∀ (n : Nat) (s0 : (List Int)) (s1 : Int),
    f74.l0 L N (fun a0 => (k0_e0 a0).bind j) (fun a0 a1 => (k0_r a0 a1).bind j) n s0 s1 = (f74.l0 L N k0_e0 k0_r n s0 s1).bind j := by
  intro n
  induction n with
  | zero => intros; rfl
  | succ n ih =>
    intro s0 s1
    show f74.s0 L N (fun a0 => (k0_e0 a0).bind j) (fun a0 a1 => (k0_r a0 a1).bind j) (f74.l0 L N (fun a0 => (k0_e0 a0).bind j) (fun a0 a1 => (k0_r a0 a1).bind j) n) s0 s1 = _
    rw [show f74.l0 L N (fun a0 => (k0_e0 a0).bind j) (fun a0 a1 => (k0_r a0 a1).bind j) n = (fun s0 s1 => (f74.l0 L N k0_e0 k0_r n s0 s1).bind j) from funext fun s0 => funext fun s1 => ih s0 s1]
    exact f74.s0_nat ..
theorem f74.p0_e0'_nat {R R' : Type} (j : R → Option R') (L N : Nat) (k : Bool → Option R) (z2 : (List Int)) :
    f74.p0_e0' L N (fun a0 => (k a0).bind j) z2 = (f74.p0_e0' L N k z2).bind j := by
  unfold f74.p0_e0'
  repeat' (first | (with_reducible refine cond_nat ?_ ?_) | (with_reducible refine bind_nat fun _ => ?_) | rfl)
theorem f74.p0_e0_nat {R R' : Type} (j : R → Option R') (L N : Nat) (k : Bool → Option R) (z2 : (List Int)) :
    f74.p0_e0 L N (fun a0 => (k a0).bind j) z2 = (f74.p0_e0 L N k z2).bind j := by
  unfold f74.p0_e0
  exact f74.p0_e0'_nat ..
theorem f74.p0_r'_nat {R R' : Type} (j : R → Option R') (L N : Nat) (k : Bool → Option R) (z7 : (List Int)) (z8 : Bool) :
    f74.p0_r' L N (fun a0 => (k a0).bind j) z7 z8 = (f74.p0_r' L N k z7 z8).bind j := by
  unfold f74.p0_r'
  repeat' (first | (with_reducible refine cond_nat ?_ ?_) | (with_reducible refine bind_nat fun _ => ?_) | rfl)
theorem f74.p0_r_nat {R R' : Type} (j : R → Option R') (L N : Nat) (k : Bool → Option R) (z7 : (List Int)) (z8 : Bool) :
    f74.p0_r L N (fun a0 => (k a0).bind j) z7 z8 = (f74.p0_r L N k z7 z8).bind j := by
  unfold f74.p0_r
  exact f74.p0_r'_nat ..
theorem f74.b'_nat {R R' : Type} (j : R → Option R') (L N : Nat) (k : Bool → Option R) (w0 : (List Int) → Int → Option R) (x0 : (List Int)) :
    f74.b' L N (fun a0 => (k a0).bind j) (fun a0 a1 => (w0 a0 a1).bind j) x0 = (f74.b' L N k w0 x0).bind j := by
  unfold f74.b'
  repeat' (first | (with_reducible refine cond_nat ?_ ?_) | (with_reducible refine bind_nat fun _ => ?_) | rfl)
theorem f74.b_nat {R R' : Type} (j : R → Option R') (L N : Nat) (k : Bool → Option R) (x0 : (List Int)) :
    f74.b L N (fun a0 => (k a0).bind j) x0 = (f74.b L N k x0).bind j := by
  unfold f74.b
  simp only [f74.l0_nat, f74.p0_e0_nat, f74.p0_r_nat]
  exact f74.b'_nat ..
theorem f74.ok (L N : Nat) (hΦ : TellsOk Try.prog ((Φ58 L N))) : EntOk Try.prog 74 (f74.ent L N) := by
  intro args vw site h
  unfold f74.ent
  split
  · rename_i d ha
    intro y hy hs
    refine call_ro (dep := 1000) (E := (E74 L N)) (rs := (.one .bool)) (v := (.tv .bool y)) (sound_of hΦ) okP (callI_sound (sound_of hΦ) okP 1 2000) (f := Try.f74) rfl hs ha ?_ rfl site
    refine (f74.b_eq L N some d.1).trans ?_
    refine ((f74.b_nat (fun y => (some (.tv .bool y) : Option AV)) L N some d.1)).trans ?_
    rw [show f74.b L N some d.1 = some y from hy]
    rfl
  · intro y hy
    cases hy
def Φ74 (L N : Nat) : Tells := (addT (Φ58 L N) 74 (f74.ent L N))
theorem Φ74_ok (L N : Nat) : TellsOk Try.prog (Φ74 L N) := addT_ok (Φ58_ok L N) (f74.ok L N (Φ58_ok L N))
def f137.j0' {R : Type} (L N : Nat) (k2_e4 : Bool → Int → (List (List Move)) → (List Bool) → Option R) (rec2 : Bool → Int → Int → (List (List Move)) → (List Bool) → Option R) (v20 : Bool) (v21 : Int) (v22 : Int) (v23 : Bool) (v24 : (List (List Move))) (v25 : Int) (v26 : Int) (v27 : (List Bool)) : Option R :=
  bif v23 then
    bif (decide (0 ≤ v26) && decide (v26 < (v27.length : Int))) then
      rec2 true v21 (wi (v22 + (1 : Int))) v24 (v27.set v26.toNat true)
    else none
  else rec2 v20 v21 (wi (v22 + (1 : Int))) v24 v27
def f137.s2' {R : Type} (L N : Nat) (k2_e4 : Bool → Int → (List (List Move)) → (List Bool) → Option R) (rec2 : Bool → Int → Int → (List (List Move)) → (List Bool) → Option R) (s11 : Bool) (s12 : Int) (s13 : Int) (s14 : (List (List Move))) (s15 : (List Bool)) : Option R :=
  bif (decide (0 ≤ s12) && decide (s12 < (s14.length : Int))) then
    bif (decide (s13 < ((listAt s14 [] s12.toNat).length : Int))) then
      bif (decide (0 ≤ s12) && decide (s12 < (s14.length : Int))) then
        bif (decide (0 ≤ s13) && decide (s13 < ((listAt s14 [] s12.toNat).length : Int))) then
          bif (decide (0 ≤ s12) && decide (s12 < (s15.length : Int))) then
            bif (listAt s15 false s12.toNat) then
              bif ((listAt (listAt s14 [] s12.toNat) (Ty.dflt (.st 0)) s13.toNat).act == (0 : Int)) then
                bif (decide (0 ≤ (listAt (listAt s14 [] s12.toNat) (Ty.dflt (.st 0)) s13.toNat).to) && decide ((listAt (listAt s14 [] s12.toNat) (Ty.dflt (.st 0)) s13.toNat).to < (s15.length : Int))) then
                  f137.j0' L N k2_e4 rec2 s11 s12 s13 (!(listAt s15 false ((listAt (listAt s14 [] s12.toNat) (Ty.dflt (.st 0)) s13.toNat).to).toNat)) s14 ((listAt (listAt s14 [] s12.toNat) (Ty.dflt (.st 0)) s13.toNat).act) ((listAt (listAt s14 [] s12.toNat) (Ty.dflt (.st 0)) s13.toNat).to) s15
                else none
              else f137.j0' L N k2_e4 rec2 s11 s12 s13 false s14 ((listAt (listAt s14 [] s12.toNat) (Ty.dflt (.st 0)) s13.toNat).act) ((listAt (listAt s14 [] s12.toNat) (Ty.dflt (.st 0)) s13.toNat).to) s15
            else f137.j0' L N k2_e4 rec2 s11 s12 s13 false s14 ((listAt (listAt s14 [] s12.toNat) (Ty.dflt (.st 0)) s13.toNat).act) ((listAt (listAt s14 [] s12.toNat) (Ty.dflt (.st 0)) s13.toNat).to) s15
          else none
        else none
      else none
    else k2_e4 s11 s12 s14 s15
  else none
def f137.s2 {R : Type} (L N : Nat) (k2_e4 : Bool → Int → (List (List Move)) → (List Bool) → Option R) (rec2 : Bool → Int → Int → (List (List Move)) → (List Bool) → Option R) (s11 : Bool) (s12 : Int) (s13 : Int) (s14 : (List (List Move))) (s15 : (List Bool)) : Option R :=
  f137.s2' L N k2_e4 rec2 s11 s12 s13 s14 s15
def f137.l2 {R : Type} (L N : Nat) (k2_e4 : Bool → Int → (List (List Move)) → (List Bool) → Option R) : Nat → Bool → Int → Int → (List (List Move)) → (List Bool) → Option R
  | 0, _, _, _, _, _ => none
  | n + 1, s11, s12, s13, s14, s15 => f137.s2 L N k2_e4 (f137.l2 L N k2_e4 n) s11 s12 s13 s14 s15
def f137.T2 (s11 : Bool) (s12 : Int) (s13 : Int) (s14 : (List (List Move))) (s15 : (List Bool)) : T := mkT 60 [(2, (.ptr 1002 0)), (5, (.row 1010)), (6, (.tv .bool s11)), (7, (.tv i64 s12)), (8, (.tv i64 s13))]
def f137.H2 (s11 : Bool) (s12 : Int) (s13 : Int) (s14 : (List (List Move))) (s15 : (List Bool)) : H := [(1002, (.box [(.tv (.sl (.sl (.st 0))) s14)])), (1010, (.row 4 .bool s15))]
def f137.T2_e4 (z16 : Bool) (z17 : Int) (z18 : (List (List Move))) (z19 : (List Bool)) : T := mkT 60 [(2, (.ptr 1002 0)), (5, (.row 1010)), (6, (.tv .bool z16)), (7, (.tv i64 z17))]
def f137.H2_e4 (z16 : Bool) (z17 : Int) (z18 : (List (List Move))) (z19 : (List Bool)) : H := [(1002, (.box [(.tv (.sl (.sl (.st 0))) z18)])), (1010, (.row 4 .bool z19))]
def f137.p2_e4' {R : Type} (L N : Nat) (k1_e2 : Bool → (List (List Move)) → (List Bool) → Option R) (rec1 : Bool → Int → (List (List Move)) → (List Bool) → Option R) (z16 : Bool) (z17 : Int) (z18 : (List (List Move))) (z19 : (List Bool)) : Option R :=
  rec1 z16 (wi (z17 + (1 : Int))) z18 z19
def f137.p2_e4 {R : Type} (L N : Nat) (k1_e2 : Bool → (List (List Move)) → (List Bool) → Option R) (rec1 : Bool → Int → (List (List Move)) → (List Bool) → Option R) (z16 : Bool) (z17 : Int) (z18 : (List (List Move))) (z19 : (List Bool)) : Option R :=
  f137.p2_e4' L N k1_e2 rec1 z16 z17 z18 z19
def f137.s1' {R : Type} (L N : Nat) (k1_e2 : Bool → (List (List Move)) → (List Bool) → Option R) (rec1 : Bool → Int → (List (List Move)) → (List Bool) → Option R) (w2 : Bool → Int → Int → (List (List Move)) → (List Bool) → Option R) (s4 : Bool) (s5 : Int) (s6 : (List (List Move))) (s7 : (List Bool)) : Option R :=
  bif (decide (s5 < (s7.length : Int))) then
    w2 s4 s5 (0 : Int) s6 s7
  else k1_e2 s4 s6 s7
def f137.s1 {R : Type} (L N : Nat) (k1_e2 : Bool → (List (List Move)) → (List Bool) → Option R) (rec1 : Bool → Int → (List (List Move)) → (List Bool) → Option R) (s4 : Bool) (s5 : Int) (s6 : (List (List Move))) (s7 : (List Bool)) : Option R :=
  f137.s1' L N k1_e2 rec1 (fun s11 s12 s13 s14 s15 => f137.l2 L N (fun z16 z17 z18 z19 => f137.p2_e4 L N k1_e2 rec1 z16 z17 z18 z19) L s11 s12 s13 s14 s15) s4 s5 s6 s7
def f137.l1 {R : Type} (L N : Nat) (k1_e2 : Bool → (List (List Move)) → (List Bool) → Option R) : Nat → Bool → Int → (List (List Move)) → (List Bool) → Option R
  | 0, _, _, _, _ => none
  | n + 1, s4, s5, s6, s7 => f137.s1 L N k1_e2 (f137.l1 L N k1_e2 n) s4 s5 s6 s7
def f137.T1 (s4 : Bool) (s5 : Int) (s6 : (List (List Move))) (s7 : (List Bool)) : T := mkT 60 [(2, (.ptr 1002 0)), (5, (.row 1010)), (6, (.tv .bool s4)), (7, (.tv i64 s5))]
def f137.H1 (s4 : Bool) (s5 : Int) (s6 : (List (List Move))) (s7 : (List Bool)) : H := [(1002, (.box [(.tv (.sl (.sl (.st 0))) s6)])), (1010, (.row 4 .bool s7))]
def f137.T1_e2 (z8 : Bool) (z9 : (List (List Move))) (z10 : (List Bool)) : T := mkT 60 [(2, (.ptr 1002 0)), (5, (.row 1010)), (6, (.tv .bool z8))]
def f137.H1_e2 (z8 : Bool) (z9 : (List (List Move))) (z10 : (List Bool)) : H := [(1002, (.box [(.tv (.sl (.sl (.st 0))) z9)])), (1010, (.row 4 .bool z10))]
def f137.p1_e2' {R : Type} (L N : Nat) (k0_e0 : (List Bool) → Option R) (rec0 : Bool → (List (List Move)) → (List Bool) → Option R) (z8 : Bool) (z9 : (List (List Move))) (z10 : (List Bool)) : Option R :=
  rec0 z8 z9 z10
def f137.p1_e2 {R : Type} (L N : Nat) (k0_e0 : (List Bool) → Option R) (rec0 : Bool → (List (List Move)) → (List Bool) → Option R) (z8 : Bool) (z9 : (List (List Move))) (z10 : (List Bool)) : Option R :=
  f137.p1_e2' L N k0_e0 rec0 z8 z9 z10
def f137.s0' {R : Type} (L N : Nat) (k0_e0 : (List Bool) → Option R) (rec0 : Bool → (List (List Move)) → (List Bool) → Option R) (w1 : Bool → Int → (List (List Move)) → (List Bool) → Option R) (s0 : Bool) (s1 : (List (List Move))) (s2 : (List Bool)) : Option R :=
  bif s0 then
    w1 false (0 : Int) s1 s2
  else k0_e0 s2
def f137.s0 {R : Type} (L N : Nat) (k0_e0 : (List Bool) → Option R) (rec0 : Bool → (List (List Move)) → (List Bool) → Option R) (s0 : Bool) (s1 : (List (List Move))) (s2 : (List Bool)) : Option R :=
  f137.s0' L N k0_e0 rec0 (fun s4 s5 s6 s7 => f137.l1 L N (fun z8 z9 z10 => f137.p1_e2 L N k0_e0 rec0 z8 z9 z10) L s4 s5 s6 s7) s0 s1 s2
def f137.l0 {R : Type} (L N : Nat) (k0_e0 : (List Bool) → Option R) : Nat → Bool → (List (List Move)) → (List Bool) → Option R
  | 0, _, _, _ => none
  | n + 1, s0, s1, s2 => f137.s0 L N k0_e0 (f137.l0 L N k0_e0 n) s0 s1 s2
def f137.T0 (s0 : Bool) (s1 : (List (List Move))) (s2 : (List Bool)) : T := mkT 60 [(2, (.ptr 1002 0)), (5, (.row 1010)), (6, (.tv .bool s0))]
def f137.H0 (s0 : Bool) (s1 : (List (List Move))) (s2 : (List Bool)) : H := [(1002, (.box [(.tv (.sl (.sl (.st 0))) s1)])), (1010, (.row 4 .bool s2))]
def f137.T0_e0 (z3 : (List Bool)) : T := mkT 60 [(5, (.row 1010))]
def f137.H0_e0 (z3 : (List Bool)) : H := [(1010, (.row 4 .bool z3))]
def f137.p0_e0' {R : Type} (L N : Nat) (k : (List Bool) → Option R) (z3 : (List Bool)) : Option R :=
  k z3
def f137.p0_e0 {R : Type} (L N : Nat) (k : (List Bool) → Option R) (z3 : (List Bool)) : Option R :=
  f137.p0_e0' L N k z3
def f137.b' {R : Type} (L N : Nat) (k : (List Bool) → Option R) (w0 : Bool → (List (List Move)) → (List Bool) → Option R) (x0 : Graph) (x1 : (List Bool)) : Option R :=
  bif (decide (([] : (List Bool)).length + x1.length ≤ lim)) then
    w0 true x0.moves (([] : (List Bool)) ++ x1)
  else none
def f137.b {R : Type} (L N : Nat) (k : (List Bool) → Option R) (x0 : Graph) (x1 : (List Bool)) : Option R :=
  f137.b' L N k (fun s0 s1 s2 => f137.l0 L N (fun z3 => f137.p0_e0 L N k z3) L s0 s1 s2) x0 x1
def f137 (L N : Nat) (x0 : Graph) (x1 : (List Bool)) : Option ((List Bool)) := f137.b L N some x0 x1
def f137.ent (L N : Nat) (args : List AV) (vw : View) (site : Nat) : Ans := match coeD [(.st 2), (.sl .bool)] vw args with
  | some (d, u) => ⟨(List Bool), f137 L N d.1 d.2.1, fun y => ((.tv (.sl .bool) y), u, [])⟩
  | none => Ans.no
noncomputable def E137 (L N : Nat) : Env := { P := Try.prog, ty := tyOf, Φ := (Φ74 L N), inl := inlT, live := lives, liveX := livesX, L := L, dp := none, prom := promT, heal := healT, ren := renT }
noncomputable def f137.c0 : Code := loopAt 0 (codeOf Try.f137)
noncomputable def f137.c1 : Code := loopAt 2 f137.c0
noncomputable def f137.c2 : Code := loopAt 4 f137.c1
theorem f137.s2_pre {R : Type} (L N : Nat) (κ : Ex → T → H → Option R) (rec : T → H → Option R) (s11 : Bool) (s12 : Int) (s13 : Int) (s14 : (List (List Move))) (s15 : (List Bool)) :
    evRd (E137 L N) (evCallI (E137 L N) 1 2000) 1000 137 60 4 f137.c2 κ rec (f137.T2 s11 s12 s13 s14 s15) (f137.H2 s11 s12 s13 s14 s15)
    = f137.s2' L N (fun z16 z17 z18 z19 => κ (.exit 4) (f137.T2_e4 z16 z17 z18 z19) (f137.H2_e4 z16 z17 z18 z19)) (fun s11 s12 s13 s14 s15 => rec (f137.T2 s11 s12 s13 s14 s15) (f137.H2 s11 s12 s13 s14 s15)) s11 s12 s13 s14 s15 := by kernel_rfl
theorem f137.s2_eq {R : Type} (L N : Nat) (κ : Ex → T → H → Option R) (rec : T → H → Option R) (s11 : Bool) (s12 : Int) (s13 : Int) (s14 : (List (List Move))) (s15 : (List Bool)) :
    evRd (E137 L N) (evCallI (E137 L N) 1 2000) 1000 137 60 4 f137.c2 κ rec (f137.T2 s11 s12 s13 s14 s15) (f137.H2 s11 s12 s13 s14 s15)
    = f137.s2 L N (fun z16 z17 z18 z19 => κ (.exit 4) (f137.T2_e4 z16 z17 z18 z19) (f137.H2_e4 z16 z17 z18 z19)) (fun s11 s12 s13 s14 s15 => rec (f137.T2 s11 s12 s13 s14 s15) (f137.H2 s11 s12 s13 s14 s15)) s11 s12 s13 s14 s15 := by
  rw [f137.s2_pre]
  unfold f137.s2
  rfl
theorem f137.l2_eq {R : Type} (L N : Nat) (κ : Ex → T → H → Option R) : ∀ (n : Nat) (s11 : Bool) (s12 : Int) (s13 : Int) (s14 : (List (List Move))) (s15 : (List Bool)),
    evLp (E137 L N) (evCallI (E137 L N) 1 2000) 1000 137 60 4 f137.c2 κ n (f137.T2 s11 s12 s13 s14 s15) (f137.H2 s11 s12 s13 s14 s15)
    = f137.l2 L N (fun z16 z17 z18 z19 => κ (.exit 4) (f137.T2_e4 z16 z17 z18 z19) (f137.H2_e4 z16 z17 z18 z19)) n s11 s12 s13 s14 s15 := by
  intro n
  induction n with
  | zero => intros; rfl
  | succ n ih =>
    intro s11 s12 s13 s14 s15
    rw [evLp_succ, f137.s2_eq]
    simp only [ih]
    rfl
theorem f137.p2_e4_pre {R : Type} (L N : Nat) (κ : Ex → T → H → Option R) (rec : T → H → Option R) (z16 : Bool) (z17 : Int) (z18 : (List (List Move))) (z19 : (List Bool)) :
    (contAt (E137 L N) (evCallI (E137 L N) 1 2000) 1000 137 60 4 f137.c1 (stepK (outK (keepT 60 ((E137 L N).liveX 137 2).1) (keepH 1000 ((E137 L N).liveX 137 2).2) κ) fun t h => rec (backK 1000 60 ((E137 L N).live 137 2).1 ((E137 L N).live 137 2).2 ((E137 L N).heal 137 2) ((E137 L N).ren 137 2) t h).1 (backK 1000 60 ((E137 L N).live 137 2).1 ((E137 L N).live 137 2).2 ((E137 L N).heal 137 2) ((E137 L N).ren 137 2) t h).2)) (.exit 4) (f137.T2_e4 z16 z17 z18 z19) (f137.H2_e4 z16 z17 z18 z19)
    = f137.p2_e4' L N (fun z8 z9 z10 => κ (.exit 2) (f137.T1_e2 z8 z9 z10) (f137.H1_e2 z8 z9 z10)) (fun s4 s5 s6 s7 => rec (f137.T1 s4 s5 s6 s7) (f137.H1 s4 s5 s6 s7)) z16 z17 z18 z19 := by kernel_rfl
theorem f137.p2_e4_eq {R : Type} (L N : Nat) (κ : Ex → T → H → Option R) (rec : T → H → Option R) (z16 : Bool) (z17 : Int) (z18 : (List (List Move))) (z19 : (List Bool)) :
    (contAt (E137 L N) (evCallI (E137 L N) 1 2000) 1000 137 60 4 f137.c1 (stepK (outK (keepT 60 ((E137 L N).liveX 137 2).1) (keepH 1000 ((E137 L N).liveX 137 2).2) κ) fun t h => rec (backK 1000 60 ((E137 L N).live 137 2).1 ((E137 L N).live 137 2).2 ((E137 L N).heal 137 2) ((E137 L N).ren 137 2) t h).1 (backK 1000 60 ((E137 L N).live 137 2).1 ((E137 L N).live 137 2).2 ((E137 L N).heal 137 2) ((E137 L N).ren 137 2) t h).2)) (.exit 4) (f137.T2_e4 z16 z17 z18 z19) (f137.H2_e4 z16 z17 z18 z19)
    = f137.p2_e4 L N (fun z8 z9 z10 => κ (.exit 2) (f137.T1_e2 z8 z9 z10) (f137.H1_e2 z8 z9 z10)) (fun s4 s5 s6 s7 => rec (f137.T1 s4 s5 s6 s7) (f137.H1 s4 s5 s6 s7)) z16 z17 z18 z19 := by
  rw [f137.p2_e4_pre]
  unfold f137.p2_e4
  rfl
theorem f137.s1_pre {R : Type} (L N : Nat) (κ : Ex → T → H → Option R) (rec : T → H → Option R) (s4 : Bool) (s5 : Int) (s6 : (List (List Move))) (s7 : (List Bool)) :
    evRd (E137 L N) (evCallI (E137 L N) 1 2000) 1000 137 60 2 f137.c1 κ rec (f137.T1 s4 s5 s6 s7) (f137.H1 s4 s5 s6 s7)
    = f137.s1' L N (fun z8 z9 z10 => κ (.exit 2) (f137.T1_e2 z8 z9 z10) (f137.H1_e2 z8 z9 z10)) (fun s4 s5 s6 s7 => rec (f137.T1 s4 s5 s6 s7) (f137.H1 s4 s5 s6 s7)) (fun s11 s12 s13 s14 s15 => evLp (E137 L N) (evCallI (E137 L N) 1 2000) 1000 137 60 4 f137.c2 (contAt (E137 L N) (evCallI (E137 L N) 1 2000) 1000 137 60 4 f137.c1 (stepK (outK (keepT 60 ((E137 L N).liveX 137 2).1) (keepH 1000 ((E137 L N).liveX 137 2).2) κ) fun t h => rec (backK 1000 60 ((E137 L N).live 137 2).1 ((E137 L N).live 137 2).2 ((E137 L N).heal 137 2) ((E137 L N).ren 137 2) t h).1 (backK 1000 60 ((E137 L N).live 137 2).1 ((E137 L N).live 137 2).2 ((E137 L N).heal 137 2) ((E137 L N).ren 137 2) t h).2)) L (f137.T2 s11 s12 s13 s14 s15) (f137.H2 s11 s12 s13 s14 s15)) s4 s5 s6 s7 := by kernel_rfl
theorem f137.s1_eq {R : Type} (L N : Nat) (κ : Ex → T → H → Option R) (rec : T → H → Option R) (s4 : Bool) (s5 : Int) (s6 : (List (List Move))) (s7 : (List Bool)) :
    evRd (E137 L N) (evCallI (E137 L N) 1 2000) 1000 137 60 2 f137.c1 κ rec (f137.T1 s4 s5 s6 s7) (f137.H1 s4 s5 s6 s7)
    = f137.s1 L N (fun z8 z9 z10 => κ (.exit 2) (f137.T1_e2 z8 z9 z10) (f137.H1_e2 z8 z9 z10)) (fun s4 s5 s6 s7 => rec (f137.T1 s4 s5 s6 s7) (f137.H1 s4 s5 s6 s7)) s4 s5 s6 s7 := by
  rw [f137.s1_pre]
  unfold f137.s1
  simp only [f137.l2_eq, f137.p2_e4_eq]
theorem f137.l1_eq {R : Type} (L N : Nat) (κ : Ex → T → H → Option R) : ∀ (n : Nat) (s4 : Bool) (s5 : Int) (s6 : (List (List Move))) (s7 : (List Bool)),
    evLp (E137 L N) (evCallI (E137 L N) 1 2000) 1000 137 60 2 f137.c1 κ n (f137.T1 s4 s5 s6 s7) (f137.H1 s4 s5 s6 s7)
    = f137.l1 L N (fun z8 z9 z10 => κ (.exit 2) (f137.T1_e2 z8 z9 z10) (f137.H1_e2 z8 z9 z10)) n s4 s5 s6 s7 := by
  intro n
  induction n with
  | zero => intros; rfl
  | succ n ih =>
    intro s4 s5 s6 s7
    rw [evLp_succ, f137.s1_eq]
    simp only [ih]
    rfl
theorem f137.p1_e2_pre {R : Type} (L N : Nat) (κ : Ex → T → H → Option R) (rec : T → H → Option R) (z8 : Bool) (z9 : (List (List Move))) (z10 : (List Bool)) :
    (contAt (E137 L N) (evCallI (E137 L N) 1 2000) 1000 137 60 2 f137.c0 (stepK (outK (keepT 60 ((E137 L N).liveX 137 0).1) (keepH 1000 ((E137 L N).liveX 137 0).2) κ) fun t h => rec (backK 1000 60 ((E137 L N).live 137 0).1 ((E137 L N).live 137 0).2 ((E137 L N).heal 137 0) ((E137 L N).ren 137 0) t h).1 (backK 1000 60 ((E137 L N).live 137 0).1 ((E137 L N).live 137 0).2 ((E137 L N).heal 137 0) ((E137 L N).ren 137 0) t h).2)) (.exit 2) (f137.T1_e2 z8 z9 z10) (f137.H1_e2 z8 z9 z10)
    = f137.p1_e2' L N (fun z3 => κ (.exit 0) (f137.T0_e0 z3) (f137.H0_e0 z3)) (fun s0 s1 s2 => rec (f137.T0 s0 s1 s2) (f137.H0 s0 s1 s2)) z8 z9 z10 := by kernel_rfl
theorem f137.p1_e2_eq {R : Type} (L N : Nat) (κ : Ex → T → H → Option R) (rec : T → H → Option R) (z8 : Bool) (z9 : (List (List Move))) (z10 : (List Bool)) :
    (contAt (E137 L N) (evCallI (E137 L N) 1 2000) 1000 137 60 2 f137.c0 (stepK (outK (keepT 60 ((E137 L N).liveX 137 0).1) (keepH 1000 ((E137 L N).liveX 137 0).2) κ) fun t h => rec (backK 1000 60 ((E137 L N).live 137 0).1 ((E137 L N).live 137 0).2 ((E137 L N).heal 137 0) ((E137 L N).ren 137 0) t h).1 (backK 1000 60 ((E137 L N).live 137 0).1 ((E137 L N).live 137 0).2 ((E137 L N).heal 137 0) ((E137 L N).ren 137 0) t h).2)) (.exit 2) (f137.T1_e2 z8 z9 z10) (f137.H1_e2 z8 z9 z10)
    = f137.p1_e2 L N (fun z3 => κ (.exit 0) (f137.T0_e0 z3) (f137.H0_e0 z3)) (fun s0 s1 s2 => rec (f137.T0 s0 s1 s2) (f137.H0 s0 s1 s2)) z8 z9 z10 := by
  rw [f137.p1_e2_pre]
  unfold f137.p1_e2
  rfl
theorem f137.s0_pre {R : Type} (L N : Nat) (κ : Ex → T → H → Option R) (rec : T → H → Option R) (s0 : Bool) (s1 : (List (List Move))) (s2 : (List Bool)) :
    evRd (E137 L N) (evCallI (E137 L N) 1 2000) 1000 137 60 0 f137.c0 κ rec (f137.T0 s0 s1 s2) (f137.H0 s0 s1 s2)
    = f137.s0' L N (fun z3 => κ (.exit 0) (f137.T0_e0 z3) (f137.H0_e0 z3)) (fun s0 s1 s2 => rec (f137.T0 s0 s1 s2) (f137.H0 s0 s1 s2)) (fun s4 s5 s6 s7 => evLp (E137 L N) (evCallI (E137 L N) 1 2000) 1000 137 60 2 f137.c1 (contAt (E137 L N) (evCallI (E137 L N) 1 2000) 1000 137 60 2 f137.c0 (stepK (outK (keepT 60 ((E137 L N).liveX 137 0).1) (keepH 1000 ((E137 L N).liveX 137 0).2) κ) fun t h => rec (backK 1000 60 ((E137 L N).live 137 0).1 ((E137 L N).live 137 0).2 ((E137 L N).heal 137 0) ((E137 L N).ren 137 0) t h).1 (backK 1000 60 ((E137 L N).live 137 0).1 ((E137 L N).live 137 0).2 ((E137 L N).heal 137 0) ((E137 L N).ren 137 0) t h).2)) L (f137.T1 s4 s5 s6 s7) (f137.H1 s4 s5 s6 s7)) s0 s1 s2 := by kernel_rfl
theorem f137.s0_eq {R : Type} (L N : Nat) (κ : Ex → T → H → Option R) (rec : T → H → Option R) (s0 : Bool) (s1 : (List (List Move))) (s2 : (List Bool)) :
    evRd (E137 L N) (evCallI (E137 L N) 1 2000) 1000 137 60 0 f137.c0 κ rec (f137.T0 s0 s1 s2) (f137.H0 s0 s1 s2)
    = f137.s0 L N (fun z3 => κ (.exit 0) (f137.T0_e0 z3) (f137.H0_e0 z3)) (fun s0 s1 s2 => rec (f137.T0 s0 s1 s2) (f137.H0 s0 s1 s2)) s0 s1 s2 := by
  rw [f137.s0_pre]
  unfold f137.s0
  simp only [f137.l1_eq, f137.p1_e2_eq]
theorem f137.l0_eq {R : Type} (L N : Nat) (κ : Ex → T → H → Option R) : ∀ (n : Nat) (s0 : Bool) (s1 : (List (List Move))) (s2 : (List Bool)),
    evLp (E137 L N) (evCallI (E137 L N) 1 2000) 1000 137 60 0 f137.c0 κ n (f137.T0 s0 s1 s2) (f137.H0 s0 s1 s2)
    = f137.l0 L N (fun z3 => κ (.exit 0) (f137.T0_e0 z3) (f137.H0_e0 z3)) n s0 s1 s2 := by
  intro n
  induction n with
  | zero => intros; rfl
  | succ n ih =>
    intro s0 s1 s2
    rw [evLp_succ, f137.s0_eq]
    simp only [ih]
    rfl
theorem f137.p0_e0_pre {R : Type} (L N : Nat) (κ : AV → Option R) (z3 : (List Bool)) :
    (contAt (E137 L N) (evCallI (E137 L N) 1 2000) 1000 137 60 0 (codeOf Try.f137) (finK (E137 L N) 1000 Try.f137 (finC (.one (.sl .bool)) κ))) (.exit 0) (f137.T0_e0 z3) (f137.H0_e0 z3)
    = f137.p0_e0' L N (fun a0 => κ (.tv (.sl .bool) a0)) z3 := by kernel_rfl
theorem f137.p0_e0_eq {R : Type} (L N : Nat) (κ : AV → Option R) (z3 : (List Bool)) :
    (contAt (E137 L N) (evCallI (E137 L N) 1 2000) 1000 137 60 0 (codeOf Try.f137) (finK (E137 L N) 1000 Try.f137 (finC (.one (.sl .bool)) κ))) (.exit 0) (f137.T0_e0 z3) (f137.H0_e0 z3)
    = f137.p0_e0 L N (fun a0 => κ (.tv (.sl .bool) a0)) z3 := by
  rw [f137.p0_e0_pre]
  unfold f137.p0_e0
  rfl
theorem f137.b_pre {R : Type} (L N : Nat) (κ : AV → Option R) (x0 : Graph) (x1 : (List Bool)) :
    evBody (E137 L N) (evCallI (E137 L N) 1 2000) 1000 137 Try.f137 [(.tv (.st 2) x0), (.tv (.sl .bool) x1)] [] [] (finC (.one (.sl .bool)) κ)
    = f137.b' L N (fun a0 => κ (.tv (.sl .bool) a0)) (fun s0 s1 s2 => evLp (E137 L N) (evCallI (E137 L N) 1 2000) 1000 137 60 0 f137.c0 (contAt (E137 L N) (evCallI (E137 L N) 1 2000) 1000 137 60 0 (codeOf Try.f137) (finK (E137 L N) 1000 Try.f137 (finC (.one (.sl .bool)) κ))) L (f137.T0 s0 s1 s2) (f137.H0 s0 s1 s2)) x0 x1 := by kernel_rfl
theorem f137.b_eq {R : Type} (L N : Nat) (κ : AV → Option R) (x0 : Graph) (x1 : (List Bool)) :
    evBody (E137 L N) (evCallI (E137 L N) 1 2000) 1000 137 Try.f137 [(.tv (.st 2) x0), (.tv (.sl .bool) x1)] [] [] (finC (.one (.sl .bool)) κ)
    = f137.b L N (fun a0 => κ (.tv (.sl .bool) a0)) x0 x1 := by
  rw [f137.b_pre]
  unfold f137.b
  simp only [f137.l0_eq, f137.p0_e0_eq]
theorem f137.j0'_nat {R R' : Type} (j : R → Option R') (L N : Nat) (k2_e4 : Bool → Int → (List (List Move)) → (List Bool) → Option R) (rec2 : Bool → Int → Int → (List (List Move)) → (List Bool) → Option R) (v20 : Bool) (v21 : Int) (v22 : Int) (v23 : Bool) (v24 : (List (List Move))) (v25 : Int) (v26 : Int) (v27 : (List Bool)) :
    f137.j0' L N (fun a0 a1 a2 a3 => (k2_e4 a0 a1 a2 a3).bind j) (fun a0 a1 a2 a3 a4 => (rec2 a0 a1 a2 a3 a4).bind j) v20 v21 v22 v23 v24 v25 v26 v27 = (f137.j0' L N k2_e4 rec2 v20 v21 v22 v23 v24 v25 v26 v27).bind j := by
  unfold f137.j0'
  repeat' (first | (with_reducible refine cond_nat ?_ ?_) | (with_reducible refine bind_nat fun _ => ?_) | rfl)
theorem f137.s2'_nat {R R' : Type} (j : R → Option R') (L N : Nat) (k2_e4 : Bool → Int → (List (List Move)) → (List Bool) → Option R) (rec2 : Bool → Int → Int → (List (List Move)) → (List Bool) → Option R) (s11 : Bool) (s12 : Int) (s13 : Int) (s14 : (List (List Move))) (s15 : (List Bool)) :
    f137.s2' L N (fun a0 a1 a2 a3 => (k2_e4 a0 a1 a2 a3).bind j) (fun a0 a1 a2 a3 a4 => (rec2 a0 a1 a2 a3 a4).bind j) s11 s12 s13 s14 s15 = (f137.s2' L N k2_e4 rec2 s11 s12 s13 s14 s15).bind j := by
  unfold f137.s2'
  repeat' (first | (with_reducible refine cond_nat ?_ ?_) | (with_reducible refine bind_nat fun _ => ?_) | exact f137.j0'_nat .. | rfl)
theorem f137.s2_nat {R R' : Type} (j : R → Option R') (L N : Nat) (k2_e4 : Bool → Int → (List (List Move)) → (List Bool) → Option R) (rec2 : Bool → Int → Int → (List (List Move)) → (List Bool) → Option R) (s11 : Bool) (s12 : Int) (s13 : Int) (s14 : (List (List Move))) (s15 : (List Bool)) :
    f137.s2 L N (fun a0 a1 a2 a3 => (k2_e4 a0 a1 a2 a3).bind j) (fun a0 a1 a2 a3 a4 => (rec2 a0 a1 a2 a3 a4).bind j) s11 s12 s13 s14 s15 = (f137.s2 L N k2_e4 rec2 s11 s12 s13 s14 s15).bind j := by
  unfold f137.s2
  exact f137.s2'_nat ..
theorem f137.l2_nat {R R' : Type} (j : R → Option R') (L N : Nat) (k2_e4 : Bool → Int → (List (List Move)) → (List Bool) → Option R) : ∀ (n : Nat) (s11 : Bool) (s12 : Int) (s13 : Int) (s14 : (List (List Move))) (s15 : (List Bool)),
    f137.l2 L N (fun a0 a1 a2 a3 => (k2_e4 a0 a1 a2 a3).bind j) n s11 s12 s13 s14 s15 = (f137.l2 L N k2_e4 n s11 s12 s13 s14 s15).bind j := by
  intro n
  induction n with
  | zero => intros; rfl
  | succ n ih =>
    intro s11 s12 s13 s14 s15
    show f137.s2 L N (fun a0 a1 a2 a3 => (k2_e4 a0 a1 a2 a3).bind j) (f137.l2 L N (fun a0 a1 a2 a3 => (k2_e4 a0 a1 a2 a3).bind j) n) s11 s12 s13 s14 s15 = _
    rw [show f137.l2 L N (fun a0 a1 a2 a3 => (k2_e4 a0 a1 a2 a3).bind j) n = (fun s11 s12 s13 s14 s15 => (f137.l2 L N k2_e4 n s11 s12 s13 s14 s15).bind j) from funext fun s11 => funext fun s12 => funext fun s13 => funext fun s14 => funext fun s15 => ih s11 s12 s13 s14 s15]
    exact f137.s2_nat ..
theorem f137.p2_e4'_nat {R R' : Type} (j : R → Option R') (L N : Nat) (k1_e2 : Bool → (List (List Move)) → (List Bool) → Option R) (rec1 : Bool → Int → (List (List Move)) → (List Bool) → Option R) (z16 : Bool) (z17 : Int) (z18 : (List (List Move))) (z19 : (List Bool)) :
    f137.p2_e4' L N (fun a0 a1 a2 => (k1_e2 a0 a1 a2).bind j) (fun a0 a1 a2 a3 => (rec1 a0 a1 a2 a3).bind j) z16 z17 z18 z19 = (f137.p2_e4' L N k1_e2 rec1 z16 z17 z18 z19).bind j := by
  unfold f137.p2_e4'
  repeat' (first | (with_reducible refine cond_nat ?_ ?_) | (with_reducible refine bind_nat fun _ => ?_) | rfl)
theorem f137.p2_e4_nat {R R' : Type} (j : R → Option R') (L N : Nat) (k1_e2 : Bool → (List (List Move)) → (List Bool) → Option R) (rec1 : Bool → Int → (List (List Move)) → (List Bool) → Option R) (z16 : Bool) (z17 : Int) (z18 : (List (List Move))) (z19 : (List Bool)) :
    f137.p2_e4 L N (fun a0 a1 a2 => (k1_e2 a0 a1 a2).bind j) (fun a0 a1 a2 a3 => (rec1 a0 a1 a2 a3).bind j) z16 z17 z18 z19 = (f137.p2_e4 L N k1_e2 rec1 z16 z17 z18 z19).bind j := by
  unfold f137.p2_e4
  exact f137.p2_e4'_nat ..
theorem f137.s1'_nat {R R' : Type} (j : R → Option R') (L N : Nat) (k1_e2 : Bool → (List (List Move)) → (List Bool) → Option R) (rec1 : Bool → Int → (List (List Move)) → (List Bool) → Option R) (w2 : Bool → Int → Int → (List (List Move)) → (List Bool) → Option R) (s4 : Bool) (s5 : Int) (s6 : (List (List Move))) (s7 : (List Bool)) :
    f137.s1' L N (fun a0 a1 a2 => (k1_e2 a0 a1 a2).bind j) (fun a0 a1 a2 a3 => (rec1 a0 a1 a2 a3).bind j) (fun a0 a1 a2 a3 a4 => (w2 a0 a1 a2 a3 a4).bind j) s4 s5 s6 s7 = (f137.s1' L N k1_e2 rec1 w2 s4 s5 s6 s7).bind j := by
  unfold f137.s1'
  repeat' (first | (with_reducible refine cond_nat ?_ ?_) | (with_reducible refine bind_nat fun _ => ?_) | rfl)
theorem f137.s1_nat {R R' : Type} (j : R → Option R') (L N : Nat) (k1_e2 : Bool → (List (List Move)) → (List Bool) → Option R) (rec1 : Bool → Int → (List (List Move)) → (List Bool) → Option R) (s4 : Bool) (s5 : Int) (s6 : (List (List Move))) (s7 : (List Bool)) :
    f137.s1 L N (fun a0 a1 a2 => (k1_e2 a0 a1 a2).bind j) (fun a0 a1 a2 a3 => (rec1 a0 a1 a2 a3).bind j) s4 s5 s6 s7 = (f137.s1 L N k1_e2 rec1 s4 s5 s6 s7).bind j := by
  unfold f137.s1
  simp only [f137.l2_nat, f137.p2_e4_nat]
  exact f137.s1'_nat ..
theorem f137.l1_nat {R R' : Type} (j : R → Option R') (L N : Nat) (k1_e2 : Bool → (List (List Move)) → (List Bool) → Option R) : ∀ (n : Nat) (s4 : Bool) (s5 : Int) (s6 : (List (List Move))) (s7 : (List Bool)),
    f137.l1 L N (fun a0 a1 a2 => (k1_e2 a0 a1 a2).bind j) n s4 s5 s6 s7 = (f137.l1 L N k1_e2 n s4 s5 s6 s7).bind j := by
  intro n
  induction n with
  | zero => intros; rfl
  | succ n ih =>
    intro s4 s5 s6 s7
    show f137.s1 L N (fun a0 a1 a2 => (k1_e2 a0 a1 a2).bind j) (f137.l1 L N (fun a0 a1 a2 => (k1_e2 a0 a1 a2).bind j) n) s4 s5 s6 s7 = _
    rw [show f137.l1 L N (fun a0 a1 a2 => (k1_e2 a0 a1 a2).bind j) n = (fun s4 s5 s6 s7 => (f137.l1 L N k1_e2 n s4 s5 s6 s7).bind j) from funext fun s4 => funext fun s5 => funext fun s6 => funext fun s7 => ih s4 s5 s6 s7]
    exact f137.s1_nat ..
theorem f137.p1_e2'_nat {R R' : Type} (j : R → Option R') (L N : Nat) (k0_e0 : (List Bool) → Option R) (rec0 : Bool → (List (List Move)) → (List Bool) → Option R) (z8 : Bool) (z9 : (List (List Move))) (z10 : (List Bool)) :
    f137.p1_e2' L N (fun a0 => (k0_e0 a0).bind j) (fun a0 a1 a2 => (rec0 a0 a1 a2).bind j) z8 z9 z10 = (f137.p1_e2' L N k0_e0 rec0 z8 z9 z10).bind j := by
  unfold f137.p1_e2'
  repeat' (first | (with_reducible refine cond_nat ?_ ?_) | (with_reducible refine bind_nat fun _ => ?_) | rfl)
theorem f137.p1_e2_nat {R R' : Type} (j : R → Option R') (L N : Nat) (k0_e0 : (List Bool) → Option R) (rec0 : Bool → (List (List Move)) → (List Bool) → Option R) (z8 : Bool) (z9 : (List (List Move))) (z10 : (List Bool)) :
    f137.p1_e2 L N (fun a0 => (k0_e0 a0).bind j) (fun a0 a1 a2 => (rec0 a0 a1 a2).bind j) z8 z9 z10 = (f137.p1_e2 L N k0_e0 rec0 z8 z9 z10).bind j := by
  unfold f137.p1_e2
  exact f137.p1_e2'_nat ..
theorem f137.s0'_nat {R R' : Type} (j : R → Option R') (L N : Nat) (k0_e0 : (List Bool) → Option R) (rec0 : Bool → (List (List Move)) → (List Bool) → Option R) (w1 : Bool → Int → (List (List Move)) → (List Bool) → Option R) (s0 : Bool) (s1 : (List (List Move))) (s2 : (List Bool)) :
    f137.s0' L N (fun a0 => (k0_e0 a0).bind j) (fun a0 a1 a2 => (rec0 a0 a1 a2).bind j) (fun a0 a1 a2 a3 => (w1 a0 a1 a2 a3).bind j) s0 s1 s2 = (f137.s0' L N k0_e0 rec0 w1 s0 s1 s2).bind j := by
  unfold f137.s0'
  repeat' (first | (with_reducible refine cond_nat ?_ ?_) | (with_reducible refine bind_nat fun _ => ?_) | rfl)
theorem f137.s0_nat {R R' : Type} (j : R → Option R') (L N : Nat) (k0_e0 : (List Bool) → Option R) (rec0 : Bool → (List (List Move)) → (List Bool) → Option R) (s0 : Bool) (s1 : (List (List Move))) (s2 : (List Bool)) :
    f137.s0 L N (fun a0 => (k0_e0 a0).bind j) (fun a0 a1 a2 => (rec0 a0 a1 a2).bind j) s0 s1 s2 = (f137.s0 L N k0_e0 rec0 s0 s1 s2).bind j := by
  unfold f137.s0
  simp only [f137.l1_nat, f137.p1_e2_nat]
  exact f137.s0'_nat ..
theorem f137.l0_nat {R R' : Type} (j : R → Option R') (L N : Nat) (k0_e0 : (List Bool) → Option R) : ∀ (n : Nat) (s0 : Bool) (s1 : (List (List Move))) (s2 : (List Bool)),
    f137.l0 L N (fun a0 => (k0_e0 a0).bind j) n s0 s1 s2 = (f137.l0 L N k0_e0 n s0 s1 s2).bind j := by
  intro n
  induction n with
  | zero => intros; rfl
  | succ n ih =>
    intro s0 s1 s2
    show f137.s0 L N (fun a0 => (k0_e0 a0).bind j) (f137.l0 L N (fun a0 => (k0_e0 a0).bind j) n) s0 s1 s2 = _
    rw [show f137.l0 L N (fun a0 => (k0_e0 a0).bind j) n = (fun s0 s1 s2 => (f137.l0 L N k0_e0 n s0 s1 s2).bind j) from funext fun s0 => funext fun s1 => funext fun s2 => ih s0 s1 s2]
    exact f137.s0_nat ..
theorem f137.p0_e0'_nat {R R' : Type} (j : R → Option R') (L N : Nat) (k : (List Bool) → Option R) (z3 : (List Bool)) :
    f137.p0_e0' L N (fun a0 => (k a0).bind j) z3 = (f137.p0_e0' L N k z3).bind j := by
  unfold f137.p0_e0'
  repeat' (first | (with_reducible refine cond_nat ?_ ?_) | (with_reducible refine bind_nat fun _ => ?_) | rfl)
theorem f137.p0_e0_nat {R R' : Type} (j : R → Option R') (L N : Nat) (k : (List Bool) → Option R) (z3 : (List Bool)) :
    f137.p0_e0 L N (fun a0 => (k a0).bind j) z3 = (f137.p0_e0 L N k z3).bind j := by
  unfold f137.p0_e0
  exact f137.p0_e0'_nat ..
theorem f137.b'_nat {R R' : Type} (j : R → Option R') (L N : Nat) (k : (List Bool) → Option R) (w0 : Bool → (List (List Move)) → (List Bool) → Option R) (x0 : Graph) (x1 : (List Bool)) :
    f137.b' L N (fun a0 => (k a0).bind j) (fun a0 a1 a2 => (w0 a0 a1 a2).bind j) x0 x1 = (f137.b' L N k w0 x0 x1).bind j := by
  unfold f137.b'
  repeat' (first | (with_reducible refine cond_nat ?_ ?_) | (with_reducible refine bind_nat fun _ => ?_) | rfl)
theorem f137.b_nat {R R' : Type} (j : R → Option R') (L N : Nat) (k : (List Bool) → Option R) (x0 : Graph) (x1 : (List Bool)) :
    f137.b L N (fun a0 => (k a0).bind j) x0 x1 = (f137.b L N k x0 x1).bind j := by
  unfold f137.b
  simp only [f137.l0_nat, f137.p0_e0_nat]
  exact f137.b'_nat ..
theorem f137.ok (L N : Nat) (hΦ : TellsOk Try.prog ((Φ74 L N))) : EntOk Try.prog 137 (f137.ent L N) := by
  intro args vw site h
  unfold f137.ent
  split
  · rename_i d u ha
    intro y hy hs
    refine call_data (dep := 1000) (E := (E137 L N)) (rs := (.one (.sl .bool))) (v' := (.tv (.sl .bool) y)) (sound_of hΦ) okP (callI_sound (sound_of hΦ) okP 1 2000) (f := Try.f137) rfl hs ha ?_ site
    refine (f137.b_eq L N some d.1 d.2.1).trans ?_
    refine ((f137.b_nat (fun y => (some (.tv (.sl .bool) y) : Option AV)) L N some d.1 d.2.1)).trans ?_
    rw [show f137.b L N some d.1 d.2.1 = some y from hy]
    rfl
  · intro y hy
    cases hy
def Φ137 (L N : Nat) : Tells := (addT (Φ74 L N) 137 (f137.ent L N))
theorem Φ137_ok (L N : Nat) : TellsOk Try.prog (Φ137 L N) := addT_ok (Φ74_ok L N) (f137.ok L N (Φ74_ok L N))
def f109.b' {R : Type} (L N : Nat) (k : (List Bool) → Option R) (x0 : Graph) : Option R :=
  bif (decide (0 ≤ (x0.moves.length : Int)) && decide ((x0.moves.length : Int) ≤ (lim : Int))) then
    bif (decide (0 ≤ (0 : Int)) && decide ((0 : Int) < ((List.replicate (x0.moves.length : Int).toNat false).length : Int))) then
      (f137 L N (Graph.mk x0.moves) ((List.replicate (x0.moves.length : Int).toNat false).set ((0 : Int).toNat) true)).bind fun y0 =>
      k y0
    else none
  else none
def f109.b {R : Type} (L N : Nat) (k : (List Bool) → Option R) (x0 : Graph) : Option R :=
  f109.b' L N k x0
def f109 (L N : Nat) (x0 : Graph) : Option ((List Bool)) := f109.b L N some x0
def f109.ent (L N : Nat) (args : List AV) (vw : View) (site : Nat) : Ans := match coeD [(.st 2)] vw args with
  | some (d, u) => ⟨(List Bool), f109 L N d.1, fun y => ((.tv (.sl .bool) y), u, [])⟩
  | none => Ans.no
noncomputable def E109 (L N : Nat) : Env := { P := Try.prog, ty := tyOf, Φ := (Φ137 L N), inl := inlT, live := lives, liveX := livesX, L := L, dp := none, prom := promT, heal := healT, ren := renT }
theorem f109.b_pre {R : Type} (L N : Nat) (κ : AV → Option R) (x0 : Graph) :
    evBody (E109 L N) (evCallI (E109 L N) 1 2000) 1000 109 Try.f109 [(.tv (.st 2) x0)] [] [] (finC (.one (.sl .bool)) κ)
    = f109.b' L N (fun a0 => κ (.tv (.sl .bool) a0)) x0 := by kernel_rfl
theorem f109.b_eq {R : Type} (L N : Nat) (κ : AV → Option R) (x0 : Graph) :
    evBody (E109 L N) (evCallI (E109 L N) 1 2000) 1000 109 Try.f109 [(.tv (.st 2) x0)] [] [] (finC (.one (.sl .bool)) κ)
    = f109.b L N (fun a0 => κ (.tv (.sl .bool) a0)) x0 := by
  rw [f109.b_pre]
  unfold f109.b
  rfl
theorem f109.b'_nat {R R' : Type} (j : R → Option R') (L N : Nat) (k : (List Bool) → Option R) (x0 : Graph) :
    f109.b' L N (fun a0 => (k a0).bind j) x0 = (f109.b' L N k x0).bind j := by
  unfold f109.b'
  repeat' (first | (with_reducible refine cond_nat ?_ ?_) | (with_reducible refine bind_nat fun _ => ?_) | rfl)
theorem f109.b_nat {R R' : Type} (j : R → Option R') (L N : Nat) (k : (List Bool) → Option R) (x0 : Graph) :
    f109.b L N (fun a0 => (k a0).bind j) x0 = (f109.b L N k x0).bind j := by
  unfold f109.b
  exact f109.b'_nat ..
theorem f109.ok (L N : Nat) (hΦ : TellsOk Try.prog ((Φ137 L N))) : EntOk Try.prog 109 (f109.ent L N) := by
  intro args vw site h
  unfold f109.ent
  split
  · rename_i d u ha
    intro y hy hs
    refine call_data (dep := 1000) (E := (E109 L N)) (rs := (.one (.sl .bool))) (v' := (.tv (.sl .bool) y)) (sound_of hΦ) okP (callI_sound (sound_of hΦ) okP 1 2000) (f := Try.f109) rfl hs ha ?_ site
    refine (f109.b_eq L N some d.1).trans ?_
    refine ((f109.b_nat (fun y => (some (.tv (.sl .bool) y) : Option AV)) L N some d.1)).trans ?_
    rw [show f109.b L N some d.1 = some y from hy]
    rfl
  · intro y hy
    cases hy
def Φ109 (L N : Nat) : Tells := (addT (Φ137 L N) 109 (f109.ent L N))
theorem Φ109_ok (L N : Nat) : TellsOk Try.prog (Φ109 L N) := addT_ok (Φ137_ok L N) (f109.ok L N (Φ137_ok L N))
def f110.j0' {R : Type} (L N : Nat) (k1_e2 : (List Bool) → Int → Int → (List (List Move)) → (List Bool) → Option R) (rec1 : (List Bool) → Int → Int → Int → (List (List Move)) → (List Bool) → Option R) (v18 : (List Bool)) (v19 : Int) (v20 : Int) (v21 : Int) (v22 : Bool) (v23 : (List (List Move))) (v24 : (List Bool)) : Option R :=
  bif v22 then
    bif (decide (0 ≤ v20) && decide (v20 < (v23.length : Int))) then
      bif (decide (0 ≤ v21) && decide (v21 < ((listAt v23 [] v20.toNat).length : Int))) then
        bif (decide (0 ≤ (listAt (listAt v23 [] v20.toNat) (Ty.dflt (.st 0)) v21.toNat).to) && decide ((listAt (listAt v23 [] v20.toNat) (Ty.dflt (.st 0)) v21.toNat).to < (v24.length : Int))) then
          rec1 v18 v19 v20 (wi (v21 + (1 : Int))) v23 (v24.set (((listAt (listAt v23 [] v20.toNat) (Ty.dflt (.st 0)) v21.toNat).to).toNat) true)
        else none
      else none
    else none
  else rec1 v18 v19 v20 (wi (v21 + (1 : Int))) v23 v24
def f110.s1' {R : Type} (L N : Nat) (k1_e2 : (List Bool) → Int → Int → (List (List Move)) → (List Bool) → Option R) (rec1 : (List Bool) → Int → Int → Int → (List (List Move)) → (List Bool) → Option R) (s7 : (List Bool)) (s8 : Int) (s9 : Int) (s10 : Int) (s11 : (List (List Move))) (s12 : (List Bool)) : Option R :=
  bif (decide (0 ≤ s9) && decide (s9 < (s11.length : Int))) then
    bif (decide (s10 < ((listAt s11 [] s9.toNat).length : Int))) then
      bif (decide (0 ≤ s9) && decide (s9 < (s7.length : Int))) then
        bif (listAt s7 false s9.toNat) then
          bif (decide (0 ≤ s9) && decide (s9 < (s11.length : Int))) then
            bif (decide (0 ≤ s10) && decide (s10 < ((listAt s11 [] s9.toNat).length : Int))) then
              f110.j0' L N k1_e2 rec1 s7 s8 s9 s10 ((listAt (listAt s11 [] s9.toNat) (Ty.dflt (.st 0)) s10.toNat).act == s8) s11 s12
            else none
          else none
        else f110.j0' L N k1_e2 rec1 s7 s8 s9 s10 false s11 s12
      else none
    else k1_e2 s7 s8 s9 s11 s12
  else none
def f110.s1 {R : Type} (L N : Nat) (k1_e2 : (List Bool) → Int → Int → (List (List Move)) → (List Bool) → Option R) (rec1 : (List Bool) → Int → Int → Int → (List (List Move)) → (List Bool) → Option R) (s7 : (List Bool)) (s8 : Int) (s9 : Int) (s10 : Int) (s11 : (List (List Move))) (s12 : (List Bool)) : Option R :=
  f110.s1' L N k1_e2 rec1 s7 s8 s9 s10 s11 s12
def f110.l1 {R : Type} (L N : Nat) (k1_e2 : (List Bool) → Int → Int → (List (List Move)) → (List Bool) → Option R) : Nat → (List Bool) → Int → Int → Int → (List (List Move)) → (List Bool) → Option R
  | 0, _, _, _, _, _, _ => none
  | n + 1, s7, s8, s9, s10, s11, s12 => f110.s1 L N k1_e2 (f110.l1 L N k1_e2 n) s7 s8 s9 s10 s11 s12
def f110.T1 (s7 : (List Bool)) (s8 : Int) (s9 : Int) (s10 : Int) (s11 : (List (List Move))) (s12 : (List Bool)) : T := mkT 60 [(1, (.tv (.sl .bool) s7)), (2, (.tv i64 s8)), (3, (.ptr 1003 0)), (7, (.row 1012)), (8, (.tv i64 s9)), (9, (.tv i64 s10))]
def f110.H1 (s7 : (List Bool)) (s8 : Int) (s9 : Int) (s10 : Int) (s11 : (List (List Move))) (s12 : (List Bool)) : H := [(1003, (.box [(.tv (.sl (.sl (.st 0))) s11)])), (1012, (.row 4 .bool s12))]
def f110.T1_e2 (z13 : (List Bool)) (z14 : Int) (z15 : Int) (z16 : (List (List Move))) (z17 : (List Bool)) : T := mkT 60 [(1, (.tv (.sl .bool) z13)), (2, (.tv i64 z14)), (3, (.ptr 1003 0)), (7, (.row 1012)), (8, (.tv i64 z15))]
def f110.H1_e2 (z13 : (List Bool)) (z14 : Int) (z15 : Int) (z16 : (List (List Move))) (z17 : (List Bool)) : H := [(1003, (.box [(.tv (.sl (.sl (.st 0))) z16)])), (1012, (.row 4 .bool z17))]
def f110.p1_e2' {R : Type} (L N : Nat) (k0_e0 : (List (List Move)) → (List Bool) → Option R) (rec0 : (List Bool) → Int → Int → (List (List Move)) → (List Bool) → Option R) (z13 : (List Bool)) (z14 : Int) (z15 : Int) (z16 : (List (List Move))) (z17 : (List Bool)) : Option R :=
  rec0 z13 z14 (wi (z15 + (1 : Int))) z16 z17
def f110.p1_e2 {R : Type} (L N : Nat) (k0_e0 : (List (List Move)) → (List Bool) → Option R) (rec0 : (List Bool) → Int → Int → (List (List Move)) → (List Bool) → Option R) (z13 : (List Bool)) (z14 : Int) (z15 : Int) (z16 : (List (List Move))) (z17 : (List Bool)) : Option R :=
  f110.p1_e2' L N k0_e0 rec0 z13 z14 z15 z16 z17
def f110.s0' {R : Type} (L N : Nat) (k0_e0 : (List (List Move)) → (List Bool) → Option R) (rec0 : (List Bool) → Int → Int → (List (List Move)) → (List Bool) → Option R) (w1 : (List Bool) → Int → Int → Int → (List (List Move)) → (List Bool) → Option R) (s0 : (List Bool)) (s1 : Int) (s2 : Int) (s3 : (List (List Move))) (s4 : (List Bool)) : Option R :=
  bif (decide (s2 < (s0.length : Int))) then
    w1 s0 s1 s2 (0 : Int) s3 s4
  else k0_e0 s3 s4
def f110.s0 {R : Type} (L N : Nat) (k0_e0 : (List (List Move)) → (List Bool) → Option R) (rec0 : (List Bool) → Int → Int → (List (List Move)) → (List Bool) → Option R) (s0 : (List Bool)) (s1 : Int) (s2 : Int) (s3 : (List (List Move))) (s4 : (List Bool)) : Option R :=
  f110.s0' L N k0_e0 rec0 (fun s7 s8 s9 s10 s11 s12 => f110.l1 L N (fun z13 z14 z15 z16 z17 => f110.p1_e2 L N k0_e0 rec0 z13 z14 z15 z16 z17) L s7 s8 s9 s10 s11 s12) s0 s1 s2 s3 s4
def f110.l0 {R : Type} (L N : Nat) (k0_e0 : (List (List Move)) → (List Bool) → Option R) : Nat → (List Bool) → Int → Int → (List (List Move)) → (List Bool) → Option R
  | 0, _, _, _, _, _ => none
  | n + 1, s0, s1, s2, s3, s4 => f110.s0 L N k0_e0 (f110.l0 L N k0_e0 n) s0 s1 s2 s3 s4
def f110.T0 (s0 : (List Bool)) (s1 : Int) (s2 : Int) (s3 : (List (List Move))) (s4 : (List Bool)) : T := mkT 60 [(1, (.tv (.sl .bool) s0)), (2, (.tv i64 s1)), (3, (.ptr 1003 0)), (7, (.row 1012)), (8, (.tv i64 s2))]
def f110.H0 (s0 : (List Bool)) (s1 : Int) (s2 : Int) (s3 : (List (List Move))) (s4 : (List Bool)) : H := [(1003, (.box [(.tv (.sl (.sl (.st 0))) s3)])), (1012, (.row 4 .bool s4))]
def f110.T0_e0 (z5 : (List (List Move))) (z6 : (List Bool)) : T := mkT 60 [(3, (.ptr 1003 0)), (7, (.row 1012))]
def f110.H0_e0 (z5 : (List (List Move))) (z6 : (List Bool)) : H := [(1003, (.box [(.tv (.sl (.sl (.st 0))) z5)])), (1012, (.row 4 .bool z6))]
def f110.p0_e0' {R : Type} (L N : Nat) (k : (List Bool) → Option R) (z5 : (List (List Move))) (z6 : (List Bool)) : Option R :=
  (f137 L N (Graph.mk z5) z6).bind fun y31 =>
  k y31
def f110.p0_e0 {R : Type} (L N : Nat) (k : (List Bool) → Option R) (z5 : (List (List Move))) (z6 : (List Bool)) : Option R :=
  f110.p0_e0' L N k z5 z6
def f110.b' {R : Type} (L N : Nat) (k : (List Bool) → Option R) (w0 : (List Bool) → Int → Int → (List (List Move)) → (List Bool) → Option R) (x0 : Graph) (x1 : (List Bool)) (x2 : Int) : Option R :=
  bif (decide (0 ≤ (x1.length : Int)) && decide ((x1.length : Int) ≤ (lim : Int))) then
    w0 x1 x2 (0 : Int) x0.moves (List.replicate (x1.length : Int).toNat false)
  else none
def f110.b {R : Type} (L N : Nat) (k : (List Bool) → Option R) (x0 : Graph) (x1 : (List Bool)) (x2 : Int) : Option R :=
  f110.b' L N k (fun s0 s1 s2 s3 s4 => f110.l0 L N (fun z5 z6 => f110.p0_e0 L N k z5 z6) L s0 s1 s2 s3 s4) x0 x1 x2
def f110 (L N : Nat) (x0 : Graph) (x1 : (List Bool)) (x2 : Int) : Option ((List Bool)) := f110.b L N some x0 x1 x2
def f110.ent (L N : Nat) (args : List AV) (vw : View) (site : Nat) : Ans := match coeD [(.st 2), (.sl .bool), i64] vw args with
  | some (d, u) => ⟨(List Bool), f110 L N d.1 d.2.1 d.2.2.1, fun y => ((.tv (.sl .bool) y), u, [])⟩
  | none => Ans.no
noncomputable def E110 (L N : Nat) : Env := { P := Try.prog, ty := tyOf, Φ := (Φ109 L N), inl := inlT, live := lives, liveX := livesX, L := L, dp := none, prom := promT, heal := healT, ren := renT }
noncomputable def f110.c0 : Code := loopAt 0 (codeOf Try.f110)
noncomputable def f110.c1 : Code := loopAt 2 f110.c0
theorem f110.s1_pre {R : Type} (L N : Nat) (κ : Ex → T → H → Option R) (rec : T → H → Option R) (s7 : (List Bool)) (s8 : Int) (s9 : Int) (s10 : Int) (s11 : (List (List Move))) (s12 : (List Bool)) :
    evRd (E110 L N) (evCallI (E110 L N) 1 2000) 1000 110 60 2 f110.c1 κ rec (f110.T1 s7 s8 s9 s10 s11 s12) (f110.H1 s7 s8 s9 s10 s11 s12)
    = f110.s1' L N (fun z13 z14 z15 z16 z17 => κ (.exit 2) (f110.T1_e2 z13 z14 z15 z16 z17) (f110.H1_e2 z13 z14 z15 z16 z17)) (fun s7 s8 s9 s10 s11 s12 => rec (f110.T1 s7 s8 s9 s10 s11 s12) (f110.H1 s7 s8 s9 s10 s11 s12)) s7 s8 s9 s10 s11 s12 := by kernel_rfl
theorem f110.s1_eq {R : Type} (L N : Nat) (κ : Ex → T → H → Option R) (rec : T → H → Option R) (s7 : (List Bool)) (s8 : Int) (s9 : Int) (s10 : Int) (s11 : (List (List Move))) (s12 : (List Bool)) :
    evRd (E110 L N) (evCallI (E110 L N) 1 2000) 1000 110 60 2 f110.c1 κ rec (f110.T1 s7 s8 s9 s10 s11 s12) (f110.H1 s7 s8 s9 s10 s11 s12)
    = f110.s1 L N (fun z13 z14 z15 z16 z17 => κ (.exit 2) (f110.T1_e2 z13 z14 z15 z16 z17) (f110.H1_e2 z13 z14 z15 z16 z17)) (fun s7 s8 s9 s10 s11 s12 => rec (f110.T1 s7 s8 s9 s10 s11 s12) (f110.H1 s7 s8 s9 s10 s11 s12)) s7 s8 s9 s10 s11 s12 := by
  rw [f110.s1_pre]
  unfold f110.s1
  rfl
theorem f110.l1_eq {R : Type} (L N : Nat) (κ : Ex → T → H → Option R) : ∀ (n : Nat) (s7 : (List Bool)) (s8 : Int) (s9 : Int) (s10 : Int) (s11 : (List (List Move))) (s12 : (List Bool)),
    evLp (E110 L N) (evCallI (E110 L N) 1 2000) 1000 110 60 2 f110.c1 κ n (f110.T1 s7 s8 s9 s10 s11 s12) (f110.H1 s7 s8 s9 s10 s11 s12)
    = f110.l1 L N (fun z13 z14 z15 z16 z17 => κ (.exit 2) (f110.T1_e2 z13 z14 z15 z16 z17) (f110.H1_e2 z13 z14 z15 z16 z17)) n s7 s8 s9 s10 s11 s12 := by
  intro n
  induction n with
  | zero => intros; rfl
  | succ n ih =>
    intro s7 s8 s9 s10 s11 s12
    rw [evLp_succ, f110.s1_eq]
    simp only [ih]
    rfl
theorem f110.p1_e2_pre {R : Type} (L N : Nat) (κ : Ex → T → H → Option R) (rec : T → H → Option R) (z13 : (List Bool)) (z14 : Int) (z15 : Int) (z16 : (List (List Move))) (z17 : (List Bool)) :
    (contAt (E110 L N) (evCallI (E110 L N) 1 2000) 1000 110 60 2 f110.c0 (stepK (outK (keepT 60 ((E110 L N).liveX 110 0).1) (keepH 1000 ((E110 L N).liveX 110 0).2) κ) fun t h => rec (backK 1000 60 ((E110 L N).live 110 0).1 ((E110 L N).live 110 0).2 ((E110 L N).heal 110 0) ((E110 L N).ren 110 0) t h).1 (backK 1000 60 ((E110 L N).live 110 0).1 ((E110 L N).live 110 0).2 ((E110 L N).heal 110 0) ((E110 L N).ren 110 0) t h).2)) (.exit 2) (f110.T1_e2 z13 z14 z15 z16 z17) (f110.H1_e2 z13 z14 z15 z16 z17)
    = f110.p1_e2' L N (fun z5 z6 => κ (.exit 0) (f110.T0_e0 z5 z6) (f110.H0_e0 z5 z6)) (fun s0 s1 s2 s3 s4 => rec (f110.T0 s0 s1 s2 s3 s4) (f110.H0 s0 s1 s2 s3 s4)) z13 z14 z15 z16 z17 := by kernel_rfl
theorem f110.p1_e2_eq {R : Type} (L N : Nat) (κ : Ex → T → H → Option R) (rec : T → H → Option R) (z13 : (List Bool)) (z14 : Int) (z15 : Int) (z16 : (List (List Move))) (z17 : (List Bool)) :
    (contAt (E110 L N) (evCallI (E110 L N) 1 2000) 1000 110 60 2 f110.c0 (stepK (outK (keepT 60 ((E110 L N).liveX 110 0).1) (keepH 1000 ((E110 L N).liveX 110 0).2) κ) fun t h => rec (backK 1000 60 ((E110 L N).live 110 0).1 ((E110 L N).live 110 0).2 ((E110 L N).heal 110 0) ((E110 L N).ren 110 0) t h).1 (backK 1000 60 ((E110 L N).live 110 0).1 ((E110 L N).live 110 0).2 ((E110 L N).heal 110 0) ((E110 L N).ren 110 0) t h).2)) (.exit 2) (f110.T1_e2 z13 z14 z15 z16 z17) (f110.H1_e2 z13 z14 z15 z16 z17)
    = f110.p1_e2 L N (fun z5 z6 => κ (.exit 0) (f110.T0_e0 z5 z6) (f110.H0_e0 z5 z6)) (fun s0 s1 s2 s3 s4 => rec (f110.T0 s0 s1 s2 s3 s4) (f110.H0 s0 s1 s2 s3 s4)) z13 z14 z15 z16 z17 := by
  rw [f110.p1_e2_pre]
  unfold f110.p1_e2
  rfl
theorem f110.s0_pre {R : Type} (L N : Nat) (κ : Ex → T → H → Option R) (rec : T → H → Option R) (s0 : (List Bool)) (s1 : Int) (s2 : Int) (s3 : (List (List Move))) (s4 : (List Bool)) :
    evRd (E110 L N) (evCallI (E110 L N) 1 2000) 1000 110 60 0 f110.c0 κ rec (f110.T0 s0 s1 s2 s3 s4) (f110.H0 s0 s1 s2 s3 s4)
    = f110.s0' L N (fun z5 z6 => κ (.exit 0) (f110.T0_e0 z5 z6) (f110.H0_e0 z5 z6)) (fun s0 s1 s2 s3 s4 => rec (f110.T0 s0 s1 s2 s3 s4) (f110.H0 s0 s1 s2 s3 s4)) (fun s7 s8 s9 s10 s11 s12 => evLp (E110 L N) (evCallI (E110 L N) 1 2000) 1000 110 60 2 f110.c1 (contAt (E110 L N) (evCallI (E110 L N) 1 2000) 1000 110 60 2 f110.c0 (stepK (outK (keepT 60 ((E110 L N).liveX 110 0).1) (keepH 1000 ((E110 L N).liveX 110 0).2) κ) fun t h => rec (backK 1000 60 ((E110 L N).live 110 0).1 ((E110 L N).live 110 0).2 ((E110 L N).heal 110 0) ((E110 L N).ren 110 0) t h).1 (backK 1000 60 ((E110 L N).live 110 0).1 ((E110 L N).live 110 0).2 ((E110 L N).heal 110 0) ((E110 L N).ren 110 0) t h).2)) L (f110.T1 s7 s8 s9 s10 s11 s12) (f110.H1 s7 s8 s9 s10 s11 s12)) s0 s1 s2 s3 s4 := by kernel_rfl
theorem f110.s0_eq {R : Type} (L N : Nat) (κ : Ex → T → H → Option R) (rec : T → H → Option R) (s0 : (List Bool)) (s1 : Int) (s2 : Int) (s3 : (List (List Move))) (s4 : (List Bool)) :
    evRd (E110 L N) (evCallI (E110 L N) 1 2000) 1000 110 60 0 f110.c0 κ rec (f110.T0 s0 s1 s2 s3 s4) (f110.H0 s0 s1 s2 s3 s4)
    = f110.s0 L N (fun z5 z6 => κ (.exit 0) (f110.T0_e0 z5 z6) (f110.H0_e0 z5 z6)) (fun s0 s1 s2 s3 s4 => rec (f110.T0 s0 s1 s2 s3 s4) (f110.H0 s0 s1 s2 s3 s4)) s0 s1 s2 s3 s4 := by
  rw [f110.s0_pre]
  unfold f110.s0
  simp only [f110.l1_eq, f110.p1_e2_eq]
theorem f110.l0_eq {R : Type} (L N : Nat) (κ : Ex → T → H → Option R) : ∀ (n : Nat) (s0 : (List Bool)) (s1 : Int) (s2 : Int) (s3 : (List (List Move))) (s4 : (List Bool)),
    evLp (E110 L N) (evCallI (E110 L N) 1 2000) 1000 110 60 0 f110.c0 κ n (f110.T0 s0 s1 s2 s3 s4) (f110.H0 s0 s1 s2 s3 s4)
    = f110.l0 L N (fun z5 z6 => κ (.exit 0) (f110.T0_e0 z5 z6) (f110.H0_e0 z5 z6)) n s0 s1 s2 s3 s4 := by
  intro n
  induction n with
  | zero => intros; rfl
  | succ n ih =>
    intro s0 s1 s2 s3 s4
    rw [evLp_succ, f110.s0_eq]
    simp only [ih]
    rfl
theorem f110.p0_e0_pre {R : Type} (L N : Nat) (κ : AV → Option R) (z5 : (List (List Move))) (z6 : (List Bool)) :
    (contAt (E110 L N) (evCallI (E110 L N) 1 2000) 1000 110 60 0 (codeOf Try.f110) (finK (E110 L N) 1000 Try.f110 (finC (.one (.sl .bool)) κ))) (.exit 0) (f110.T0_e0 z5 z6) (f110.H0_e0 z5 z6)
    = f110.p0_e0' L N (fun a0 => κ (.tv (.sl .bool) a0)) z5 z6 := by kernel_rfl
theorem f110.p0_e0_eq {R : Type} (L N : Nat) (κ : AV → Option R) (z5 : (List (List Move))) (z6 : (List Bool)) :
    (contAt (E110 L N) (evCallI (E110 L N) 1 2000) 1000 110 60 0 (codeOf Try.f110) (finK (E110 L N) 1000 Try.f110 (finC (.one (.sl .bool)) κ))) (.exit 0) (f110.T0_e0 z5 z6) (f110.H0_e0 z5 z6)
    = f110.p0_e0 L N (fun a0 => κ (.tv (.sl .bool) a0)) z5 z6 := by
  rw [f110.p0_e0_pre]
  unfold f110.p0_e0
  rfl
theorem f110.b_pre {R : Type} (L N : Nat) (κ : AV → Option R) (x0 : Graph) (x1 : (List Bool)) (x2 : Int) :
    evBody (E110 L N) (evCallI (E110 L N) 1 2000) 1000 110 Try.f110 [(.tv (.st 2) x0), (.tv (.sl .bool) x1), (.tv i64 x2)] [] [] (finC (.one (.sl .bool)) κ)
    = f110.b' L N (fun a0 => κ (.tv (.sl .bool) a0)) (fun s0 s1 s2 s3 s4 => evLp (E110 L N) (evCallI (E110 L N) 1 2000) 1000 110 60 0 f110.c0 (contAt (E110 L N) (evCallI (E110 L N) 1 2000) 1000 110 60 0 (codeOf Try.f110) (finK (E110 L N) 1000 Try.f110 (finC (.one (.sl .bool)) κ))) L (f110.T0 s0 s1 s2 s3 s4) (f110.H0 s0 s1 s2 s3 s4)) x0 x1 x2 := by kernel_rfl
theorem f110.b_eq {R : Type} (L N : Nat) (κ : AV → Option R) (x0 : Graph) (x1 : (List Bool)) (x2 : Int) :
    evBody (E110 L N) (evCallI (E110 L N) 1 2000) 1000 110 Try.f110 [(.tv (.st 2) x0), (.tv (.sl .bool) x1), (.tv i64 x2)] [] [] (finC (.one (.sl .bool)) κ)
    = f110.b L N (fun a0 => κ (.tv (.sl .bool) a0)) x0 x1 x2 := by
  rw [f110.b_pre]
  unfold f110.b
  simp only [f110.l0_eq, f110.p0_e0_eq]
theorem f110.j0'_nat {R R' : Type} (j : R → Option R') (L N : Nat) (k1_e2 : (List Bool) → Int → Int → (List (List Move)) → (List Bool) → Option R) (rec1 : (List Bool) → Int → Int → Int → (List (List Move)) → (List Bool) → Option R) (v18 : (List Bool)) (v19 : Int) (v20 : Int) (v21 : Int) (v22 : Bool) (v23 : (List (List Move))) (v24 : (List Bool)) :
    f110.j0' L N (fun a0 a1 a2 a3 a4 => (k1_e2 a0 a1 a2 a3 a4).bind j) (fun a0 a1 a2 a3 a4 a5 => (rec1 a0 a1 a2 a3 a4 a5).bind j) v18 v19 v20 v21 v22 v23 v24 = (f110.j0' L N k1_e2 rec1 v18 v19 v20 v21 v22 v23 v24).bind j := by
  unfold f110.j0'
  repeat' (first | (with_reducible refine cond_nat ?_ ?_) | (with_reducible refine bind_nat fun _ => ?_) | rfl)
theorem f110.s1'_nat {R R' : Type} (j : R → Option R') (L N : Nat) (k1_e2 : (List Bool) → Int → Int → (List (List Move)) → (List Bool) → Option R) (rec1 : (List Bool) → Int → Int → Int → (List (List Move)) → (List Bool) → Option R) (s7 : (List Bool)) (s8 : Int) (s9 : Int) (s10 : Int) (s11 : (List (List Move))) (s12 : (List Bool)) :
    f110.s1' L N (fun a0 a1 a2 a3 a4 => (k1_e2 a0 a1 a2 a3 a4).bind j) (fun a0 a1 a2 a3 a4 a5 => (rec1 a0 a1 a2 a3 a4 a5).bind j) s7 s8 s9 s10 s11 s12 = (f110.s1' L N k1_e2 rec1 s7 s8 s9 s10 s11 s12).bind j := by
  unfold f110.s1'
  repeat' (first | (with_reducible refine cond_nat ?_ ?_) | (with_reducible refine bind_nat fun _ => ?_) | exact f110.j0'_nat .. | rfl)
theorem f110.s1_nat {R R' : Type} (j : R → Option R') (L N : Nat) (k1_e2 : (List Bool) → Int → Int → (List (List Move)) → (List Bool) → Option R) (rec1 : (List Bool) → Int → Int → Int → (List (List Move)) → (List Bool) → Option R) (s7 : (List Bool)) (s8 : Int) (s9 : Int) (s10 : Int) (s11 : (List (List Move))) (s12 : (List Bool)) :
    f110.s1 L N (fun a0 a1 a2 a3 a4 => (k1_e2 a0 a1 a2 a3 a4).bind j) (fun a0 a1 a2 a3 a4 a5 => (rec1 a0 a1 a2 a3 a4 a5).bind j) s7 s8 s9 s10 s11 s12 = (f110.s1 L N k1_e2 rec1 s7 s8 s9 s10 s11 s12).bind j := by
  unfold f110.s1
  exact f110.s1'_nat ..
theorem f110.l1_nat {R R' : Type} (j : R → Option R') (L N : Nat) (k1_e2 : (List Bool) → Int → Int → (List (List Move)) → (List Bool) → Option R) : ∀ (n : Nat) (s7 : (List Bool)) (s8 : Int) (s9 : Int) (s10 : Int) (s11 : (List (List Move))) (s12 : (List Bool)),
    f110.l1 L N (fun a0 a1 a2 a3 a4 => (k1_e2 a0 a1 a2 a3 a4).bind j) n s7 s8 s9 s10 s11 s12 = (f110.l1 L N k1_e2 n s7 s8 s9 s10 s11 s12).bind j := by
  intro n
  induction n with
  | zero => intros; rfl
  | succ n ih =>
    intro s7 s8 s9 s10 s11 s12
    show f110.s1 L N (fun a0 a1 a2 a3 a4 => (k1_e2 a0 a1 a2 a3 a4).bind j) (f110.l1 L N (fun a0 a1 a2 a3 a4 => (k1_e2 a0 a1 a2 a3 a4).bind j) n) s7 s8 s9 s10 s11 s12 = _
    rw [show f110.l1 L N (fun a0 a1 a2 a3 a4 => (k1_e2 a0 a1 a2 a3 a4).bind j) n = (fun s7 s8 s9 s10 s11 s12 => (f110.l1 L N k1_e2 n s7 s8 s9 s10 s11 s12).bind j) from funext fun s7 => funext fun s8 => funext fun s9 => funext fun s10 => funext fun s11 => funext fun s12 => ih s7 s8 s9 s10 s11 s12]
    exact f110.s1_nat ..
theorem f110.p1_e2'_nat {R R' : Type} (j : R → Option R') (L N : Nat) (k0_e0 : (List (List Move)) → (List Bool) → Option R) (rec0 : (List Bool) → Int → Int → (List (List Move)) → (List Bool) → Option R) (z13 : (List Bool)) (z14 : Int) (z15 : Int) (z16 : (List (List Move))) (z17 : (List Bool)) :
    f110.p1_e2' L N (fun a0 a1 => (k0_e0 a0 a1).bind j) (fun a0 a1 a2 a3 a4 => (rec0 a0 a1 a2 a3 a4).bind j) z13 z14 z15 z16 z17 = (f110.p1_e2' L N k0_e0 rec0 z13 z14 z15 z16 z17).bind j := by
  unfold f110.p1_e2'
  repeat' (first | (with_reducible refine cond_nat ?_ ?_) | (with_reducible refine bind_nat fun _ => ?_) | rfl)
theorem f110.p1_e2_nat {R R' : Type} (j : R → Option R') (L N : Nat) (k0_e0 : (List (List Move)) → (List Bool) → Option R) (rec0 : (List Bool) → Int → Int → (List (List Move)) → (List Bool) → Option R) (z13 : (List Bool)) (z14 : Int) (z15 : Int) (z16 : (List (List Move))) (z17 : (List Bool)) :
    f110.p1_e2 L N (fun a0 a1 => (k0_e0 a0 a1).bind j) (fun a0 a1 a2 a3 a4 => (rec0 a0 a1 a2 a3 a4).bind j) z13 z14 z15 z16 z17 = (f110.p1_e2 L N k0_e0 rec0 z13 z14 z15 z16 z17).bind j := by
  unfold f110.p1_e2
  exact f110.p1_e2'_nat ..
theorem f110.s0'_nat {R R' : Type} (j : R → Option R') (L N : Nat) (k0_e0 : (List (List Move)) → (List Bool) → Option R) (rec0 : (List Bool) → Int → Int → (List (List Move)) → (List Bool) → Option R) (w1 : (List Bool) → Int → Int → Int → (List (List Move)) → (List Bool) → Option R) (s0 : (List Bool)) (s1 : Int) (s2 : Int) (s3 : (List (List Move))) (s4 : (List Bool)) :
    f110.s0' L N (fun a0 a1 => (k0_e0 a0 a1).bind j) (fun a0 a1 a2 a3 a4 => (rec0 a0 a1 a2 a3 a4).bind j) (fun a0 a1 a2 a3 a4 a5 => (w1 a0 a1 a2 a3 a4 a5).bind j) s0 s1 s2 s3 s4 = (f110.s0' L N k0_e0 rec0 w1 s0 s1 s2 s3 s4).bind j := by
  unfold f110.s0'
  repeat' (first | (with_reducible refine cond_nat ?_ ?_) | (with_reducible refine bind_nat fun _ => ?_) | rfl)
theorem f110.s0_nat {R R' : Type} (j : R → Option R') (L N : Nat) (k0_e0 : (List (List Move)) → (List Bool) → Option R) (rec0 : (List Bool) → Int → Int → (List (List Move)) → (List Bool) → Option R) (s0 : (List Bool)) (s1 : Int) (s2 : Int) (s3 : (List (List Move))) (s4 : (List Bool)) :
    f110.s0 L N (fun a0 a1 => (k0_e0 a0 a1).bind j) (fun a0 a1 a2 a3 a4 => (rec0 a0 a1 a2 a3 a4).bind j) s0 s1 s2 s3 s4 = (f110.s0 L N k0_e0 rec0 s0 s1 s2 s3 s4).bind j := by
  unfold f110.s0
  simp only [f110.l1_nat, f110.p1_e2_nat]
  exact f110.s0'_nat ..
theorem f110.l0_nat {R R' : Type} (j : R → Option R') (L N : Nat) (k0_e0 : (List (List Move)) → (List Bool) → Option R) : ∀ (n : Nat) (s0 : (List Bool)) (s1 : Int) (s2 : Int) (s3 : (List (List Move))) (s4 : (List Bool)),
    f110.l0 L N (fun a0 a1 => (k0_e0 a0 a1).bind j) n s0 s1 s2 s3 s4 = (f110.l0 L N k0_e0 n s0 s1 s2 s3 s4).bind j := by
  intro n
  induction n with
  | zero => intros; rfl
  | succ n ih =>
    intro s0 s1 s2 s3 s4
    show f110.s0 L N (fun a0 a1 => (k0_e0 a0 a1).bind j) (f110.l0 L N (fun a0 a1 => (k0_e0 a0 a1).bind j) n) s0 s1 s2 s3 s4 = _
    rw [show f110.l0 L N (fun a0 a1 => (k0_e0 a0 a1).bind j) n = (fun s0 s1 s2 s3 s4 => (f110.l0 L N k0_e0 n s0 s1 s2 s3 s4).bind j) from funext fun s0 => funext fun s1 => funext fun s2 => funext fun s3 => funext fun s4 => ih s0 s1 s2 s3 s4]
    exact f110.s0_nat ..
theorem f110.p0_e0'_nat {R R' : Type} (j : R → Option R') (L N : Nat) (k : (List Bool) → Option R) (z5 : (List (List Move))) (z6 : (List Bool)) :
    f110.p0_e0' L N (fun a0 => (k a0).bind j) z5 z6 = (f110.p0_e0' L N k z5 z6).bind j := by
  unfold f110.p0_e0'
  repeat' (first | (with_reducible refine cond_nat ?_ ?_) | (with_reducible refine bind_nat fun _ => ?_) | rfl)
theorem f110.p0_e0_nat {R R' : Type} (j : R → Option R') (L N : Nat) (k : (List Bool) → Option R) (z5 : (List (List Move))) (z6 : (List Bool)) :
    f110.p0_e0 L N (fun a0 => (k a0).bind j) z5 z6 = (f110.p0_e0 L N k z5 z6).bind j := by
  unfold f110.p0_e0
  exact f110.p0_e0'_nat ..
theorem f110.b'_nat {R R' : Type} (j : R → Option R') (L N : Nat) (k : (List Bool) → Option R) (w0 : (List Bool) → Int → Int → (List (List Move)) → (List Bool) → Option R) (x0 : Graph) (x1 : (List Bool)) (x2 : Int) :
    f110.b' L N (fun a0 => (k a0).bind j) (fun a0 a1 a2 a3 a4 => (w0 a0 a1 a2 a3 a4).bind j) x0 x1 x2 = (f110.b' L N k w0 x0 x1 x2).bind j := by
  unfold f110.b'
  repeat' (first | (with_reducible refine cond_nat ?_ ?_) | (with_reducible refine bind_nat fun _ => ?_) | rfl)
theorem f110.b_nat {R R' : Type} (j : R → Option R') (L N : Nat) (k : (List Bool) → Option R) (x0 : Graph) (x1 : (List Bool)) (x2 : Int) :
    f110.b L N (fun a0 => (k a0).bind j) x0 x1 x2 = (f110.b L N k x0 x1 x2).bind j := by
  unfold f110.b
  simp only [f110.l0_nat, f110.p0_e0_nat]
  exact f110.b'_nat ..
theorem f110.ok (L N : Nat) (hΦ : TellsOk Try.prog ((Φ109 L N))) : EntOk Try.prog 110 (f110.ent L N) := by
  intro args vw site h
  unfold f110.ent
  split
  · rename_i d u ha
    intro y hy hs
    refine call_data (dep := 1000) (E := (E110 L N)) (rs := (.one (.sl .bool))) (v' := (.tv (.sl .bool) y)) (sound_of hΦ) okP (callI_sound (sound_of hΦ) okP 1 2000) (f := Try.f110) rfl hs ha ?_ site
    refine (f110.b_eq L N some d.1 d.2.1 d.2.2.1).trans ?_
    refine ((f110.b_nat (fun y => (some (.tv (.sl .bool) y) : Option AV)) L N some d.1 d.2.1 d.2.2.1)).trans ?_
    rw [show f110.b L N some d.1 d.2.1 d.2.2.1 = some y from hy]
    rfl
  · intro y hy
    cases hy
def Φ110 (L N : Nat) : Tells := (addT (Φ109 L N) 110 (f110.ent L N))
theorem Φ110_ok (L N : Nat) : TellsOk Try.prog (Φ110 L N) := addT_ok (Φ109_ok L N) (f110.ok L N (Φ109_ok L N))
def f76.s0' {R : Type} (L N : Nat) (k0_e0 : (List Bool) → Option R) (rec0 : (List Int) → (List Bool) → Int → (List (List Move)) → Option R) (s1 : (List Int)) (s2 : (List Bool)) (s3 : Int) (s4 : (List (List Move))) : Option R :=
  bif (decide (s3 < (s1.length : Int))) then
    bif (decide (0 ≤ s3) && decide (s3 < (s1.length : Int))) then
      (f110 L N (Graph.mk s4) s2 (listAt s1 (0 : Int) s3.toNat)).bind fun y6 =>
      rec0 s1 y6 (wi (s3 + (1 : Int))) s4
    else none
  else k0_e0 s2
def f76.s0 {R : Type} (L N : Nat) (k0_e0 : (List Bool) → Option R) (rec0 : (List Int) → (List Bool) → Int → (List (List Move)) → Option R) (s1 : (List Int)) (s2 : (List Bool)) (s3 : Int) (s4 : (List (List Move))) : Option R :=
  f76.s0' L N k0_e0 rec0 s1 s2 s3 s4
def f76.l0 {R : Type} (L N : Nat) (k0_e0 : (List Bool) → Option R) : Nat → (List Int) → (List Bool) → Int → (List (List Move)) → Option R
  | 0, _, _, _, _ => none
  | n + 1, s1, s2, s3, s4 => f76.s0 L N k0_e0 (f76.l0 L N k0_e0 n) s1 s2 s3 s4
def f76.T0 (s1 : (List Int)) (s2 : (List Bool)) (s3 : Int) (s4 : (List (List Move))) : T := mkT 23 [(1, (.tv (.sl i64) s1)), (2, (.ptr 1002 0)), (5, (.tv (.sl .bool) s2)), (6, (.tv i64 s3))]
def f76.H0 (s1 : (List Int)) (s2 : (List Bool)) (s3 : Int) (s4 : (List (List Move))) : H := [(1002, (.box [(.tv (.sl (.sl (.st 0))) s4)]))]
def f76.T0_e0 (z5 : (List Bool)) : T := mkT 23 [(5, (.tv (.sl .bool) z5))]
def f76.H0_e0 (z5 : (List Bool)) : H := []
def f76.p0_e0' {R : Type} (L N : Nat) (k : (List Bool) → Option R) (z5 : (List Bool)) : Option R :=
  k z5
def f76.p0_e0 {R : Type} (L N : Nat) (k : (List Bool) → Option R) (z5 : (List Bool)) : Option R :=
  f76.p0_e0' L N k z5
def f76.b' {R : Type} (L N : Nat) (k : (List Bool) → Option R) (w0 : (List Int) → (List Bool) → Int → (List (List Move)) → Option R) (x0 : Graph) (x1 : (List Int)) : Option R :=
  (f109 L N (Graph.mk x0.moves)).bind fun y0 =>
  w0 x1 y0 (0 : Int) x0.moves
def f76.b {R : Type} (L N : Nat) (k : (List Bool) → Option R) (x0 : Graph) (x1 : (List Int)) : Option R :=
  f76.b' L N k (fun s1 s2 s3 s4 => f76.l0 L N (fun z5 => f76.p0_e0 L N k z5) L s1 s2 s3 s4) x0 x1
def f76 (L N : Nat) (x0 : Graph) (x1 : (List Int)) : Option ((List Bool)) := f76.b L N some x0 x1
def f76.ent (L N : Nat) (args : List AV) (vw : View) (site : Nat) : Ans := match coeD [(.st 2), (.sl i64)] vw args with
  | some (d, u) => ⟨(List Bool), f76 L N d.1 d.2.1, fun y => ((.tv (.sl .bool) y), u, [])⟩
  | none => Ans.no
noncomputable def E76 (L N : Nat) : Env := { P := Try.prog, ty := tyOf, Φ := (Φ110 L N), inl := inlT, live := lives, liveX := livesX, L := L, dp := none, prom := promT, heal := healT, ren := renT }
noncomputable def f76.c0 : Code := loopAt 0 (codeOf Try.f76)
theorem f76.s0_pre {R : Type} (L N : Nat) (κ : Ex → T → H → Option R) (rec : T → H → Option R) (s1 : (List Int)) (s2 : (List Bool)) (s3 : Int) (s4 : (List (List Move))) :
    evRd (E76 L N) (evCallI (E76 L N) 1 2000) 1000 76 23 0 f76.c0 κ rec (f76.T0 s1 s2 s3 s4) (f76.H0 s1 s2 s3 s4)
    = f76.s0' L N (fun z5 => κ (.exit 0) (f76.T0_e0 z5) (f76.H0_e0 z5)) (fun s1 s2 s3 s4 => rec (f76.T0 s1 s2 s3 s4) (f76.H0 s1 s2 s3 s4)) s1 s2 s3 s4 := by kernel_rfl
theorem f76.s0_eq {R : Type} (L N : Nat) (κ : Ex → T → H → Option R) (rec : T → H → Option R) (s1 : (List Int)) (s2 : (List Bool)) (s3 : Int) (s4 : (List (List Move))) :
    evRd (E76 L N) (evCallI (E76 L N) 1 2000) 1000 76 23 0 f76.c0 κ rec (f76.T0 s1 s2 s3 s4) (f76.H0 s1 s2 s3 s4)
    = f76.s0 L N (fun z5 => κ (.exit 0) (f76.T0_e0 z5) (f76.H0_e0 z5)) (fun s1 s2 s3 s4 => rec (f76.T0 s1 s2 s3 s4) (f76.H0 s1 s2 s3 s4)) s1 s2 s3 s4 := by
  rw [f76.s0_pre]
  unfold f76.s0
  rfl
theorem f76.l0_eq {R : Type} (L N : Nat) (κ : Ex → T → H → Option R) : ∀ (n : Nat) (s1 : (List Int)) (s2 : (List Bool)) (s3 : Int) (s4 : (List (List Move))),
    evLp (E76 L N) (evCallI (E76 L N) 1 2000) 1000 76 23 0 f76.c0 κ n (f76.T0 s1 s2 s3 s4) (f76.H0 s1 s2 s3 s4)
    = f76.l0 L N (fun z5 => κ (.exit 0) (f76.T0_e0 z5) (f76.H0_e0 z5)) n s1 s2 s3 s4 := by
  intro n
  induction n with
  | zero => intros; rfl
  | succ n ih =>
    intro s1 s2 s3 s4
    rw [evLp_succ, f76.s0_eq]
    simp only [ih]
    rfl
theorem f76.p0_e0_pre {R : Type} (L N : Nat) (κ : AV → Option R) (z5 : (List Bool)) :
    (contAt (E76 L N) (evCallI (E76 L N) 1 2000) 1000 76 23 0 (codeOf Try.f76) (finK (E76 L N) 1000 Try.f76 (finC (.one (.sl .bool)) κ))) (.exit 0) (f76.T0_e0 z5) (f76.H0_e0 z5)
    = f76.p0_e0' L N (fun a0 => κ (.tv (.sl .bool) a0)) z5 := by kernel_rfl
theorem f76.p0_e0_eq {R : Type} (L N : Nat) (κ : AV → Option R) (z5 : (List Bool)) :
    (contAt (E76 L N) (evCallI (E76 L N) 1 2000) 1000 76 23 0 (codeOf Try.f76) (finK (E76 L N) 1000 Try.f76 (finC (.one (.sl .bool)) κ))) (.exit 0) (f76.T0_e0 z5) (f76.H0_e0 z5)
    = f76.p0_e0 L N (fun a0 => κ (.tv (.sl .bool) a0)) z5 := by
  rw [f76.p0_e0_pre]
  unfold f76.p0_e0
  rfl
theorem f76.b_pre {R : Type} (L N : Nat) (κ : AV → Option R) (x0 : Graph) (x1 : (List Int)) :
    evBody (E76 L N) (evCallI (E76 L N) 1 2000) 1000 76 Try.f76 [(.tv (.st 2) x0), (.tv (.sl i64) x1)] [] [] (finC (.one (.sl .bool)) κ)
    = f76.b' L N (fun a0 => κ (.tv (.sl .bool) a0)) (fun s1 s2 s3 s4 => evLp (E76 L N) (evCallI (E76 L N) 1 2000) 1000 76 23 0 f76.c0 (contAt (E76 L N) (evCallI (E76 L N) 1 2000) 1000 76 23 0 (codeOf Try.f76) (finK (E76 L N) 1000 Try.f76 (finC (.one (.sl .bool)) κ))) L (f76.T0 s1 s2 s3 s4) (f76.H0 s1 s2 s3 s4)) x0 x1 := by kernel_rfl
theorem f76.b_eq {R : Type} (L N : Nat) (κ : AV → Option R) (x0 : Graph) (x1 : (List Int)) :
    evBody (E76 L N) (evCallI (E76 L N) 1 2000) 1000 76 Try.f76 [(.tv (.st 2) x0), (.tv (.sl i64) x1)] [] [] (finC (.one (.sl .bool)) κ)
    = f76.b L N (fun a0 => κ (.tv (.sl .bool) a0)) x0 x1 := by
  rw [f76.b_pre]
  unfold f76.b
  simp only [f76.l0_eq, f76.p0_e0_eq]
theorem f76.s0'_nat {R R' : Type} (j : R → Option R') (L N : Nat) (k0_e0 : (List Bool) → Option R) (rec0 : (List Int) → (List Bool) → Int → (List (List Move)) → Option R) (s1 : (List Int)) (s2 : (List Bool)) (s3 : Int) (s4 : (List (List Move))) :
    f76.s0' L N (fun a0 => (k0_e0 a0).bind j) (fun a0 a1 a2 a3 => (rec0 a0 a1 a2 a3).bind j) s1 s2 s3 s4 = (f76.s0' L N k0_e0 rec0 s1 s2 s3 s4).bind j := by
  unfold f76.s0'
  repeat' (first | (with_reducible refine cond_nat ?_ ?_) | (with_reducible refine bind_nat fun _ => ?_) | rfl)
theorem f76.s0_nat {R R' : Type} (j : R → Option R') (L N : Nat) (k0_e0 : (List Bool) → Option R) (rec0 : (List Int) → (List Bool) → Int → (List (List Move)) → Option R) (s1 : (List Int)) (s2 : (List Bool)) (s3 : Int) (s4 : (List (List Move))) :
    f76.s0 L N (fun a0 => (k0_e0 a0).bind j) (fun a0 a1 a2 a3 => (rec0 a0 a1 a2 a3).bind j) s1 s2 s3 s4 = (f76.s0 L N k0_e0 rec0 s1 s2 s3 s4).bind j := by
  unfold f76.s0
  exact f76.s0'_nat ..
end Go.Proofs.Ytdfjdbpklbehoaa.Ev
