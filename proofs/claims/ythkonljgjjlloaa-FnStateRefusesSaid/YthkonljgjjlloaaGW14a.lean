/- The seat's functions as plain functions: made by program (wip/gen/gen.py). -/
import Derived.Test.YthkonljgjjlloaaEvYa
namespace Go.Proofs.Ythkonljgjjlloaa.Ev
open Go
set_option linter.unusedVariables false
set_option maxRecDepth 20000
def tyTab : List (Nat × Ty) := [(2, i64), (3, i64), (4, .bool), (5, (.int .u8)), (6, (.int .u8)), (9, .str), (10, .str), (11, .str), (12, (.int .u64)), (21, (.int .i32)), (22, (.sl .bool)), (26, (.sl (.int .u8))), (29, (.sl i64)), (33, (.sl (.st 1))), (34, (.st 1)), (35, (.st 1)), (38, (.sl (.st 1))), (39, (.st 1)), (40, (.st 1)), (47, (.sl (.sl (.st 0)))), (48, (.st 2)), (49, (.st 2)), (52, (.sl (.sl (.st 0)))), (53, (.st 2)), (54, (.st 2)), (62, (.sl (.st 0))), (63, (.st 0)), (64, (.st 0)), (89, (.sl (.st 0))), (100, (.sl (.st 1))), (101, (.st 1)), (102, (.st 1)), (110, (.st 0)), (121, (.sl .str)), (122, (.sl (.st 3))), (125, (.st 3)), (137, (.int .u32)), (138, (.int .u8)), (139, (.int .u8)), (142, (.int .i32)), (143, (.int .i32))]
def tyOf (t : Nat) : Option Ty := tyFind t tyTab
def lives (f i : Nat) : List Nat × List Nat :=
  bif Nat.beq f 14 && Nat.beq i 0 then ([3, 4, 5, 8], [3]) else
  bif Nat.beq f 14 && Nat.beq i 2 then ([3, 4, 10], [3]) else
  bif Nat.beq f 45 && Nat.beq i 0 then ([0, 1, 5, 6], [7]) else
  bif Nat.beq f 62 && Nat.beq i 0 then ([1, 3], [1]) else
  bif Nat.beq f 62 && Nat.beq i 2 then ([1, 3, 4], [1]) else
  bif Nat.beq f 63 && Nat.beq i 0 then ([2, 7, 8, 9], []) else
  bif Nat.beq f 65 && Nat.beq i 0 then ([1, 18, 19, 20], [1]) else
  bif Nat.beq f 65 && Nat.beq i 2 then ([1, 4, 18, 19, 20, 24, 25, 26], [1]) else
  bif Nat.beq f 80 && Nat.beq i 0 then ([1, 2, 6, 7, 8], [2, 10]) else
  bif Nat.beq f 90 && Nat.beq i 0 then ([0, 4, 5, 6, 7, 8], [4, 5, 900, 901]) else
  bif Nat.beq f 90 && Nat.beq i 2 then ([0, 4, 5, 6, 7, 8, 9, 10], [4, 5, 25, 900, 901]) else
  bif Nat.beq f 100 && Nat.beq i 0 then ([0, 1, 7, 8], []) else
  bif Nat.beq f 102 && Nat.beq i 0 then ([0, 3, 4, 5], [8]) else
  bif Nat.beq f 105 && Nat.beq i 0 then ([1, 4, 6, 7, 8, 9], [4, 8, 16, 19, 900]) else
  bif Nat.beq f 105 && Nat.beq i 2 then ([1, 4, 6, 7, 8, 9, 10, 11, 12], [4, 8, 16, 19, 32, 33, 900]) else
  bif Nat.beq f 105 && Nat.beq i 4 then ([1, 4, 6, 7, 8, 9, 10, 11, 12, 13, 14], [4, 8, 16, 19, 32, 33, 900]) else
  bif Nat.beq f 106 && Nat.beq i 0 then ([0, 3, 4], [7]) else
  bif Nat.beq f 106 && Nat.beq i 2 then ([0, 3, 4, 5], [7]) else
  bif Nat.beq f 106 && Nat.beq i 4 then ([0, 3, 4, 5, 6], [7]) else
  bif Nat.beq f 109 && Nat.beq i 0 then ([0, 3], []) else
  bif Nat.beq f 111 && Nat.beq i 1 then ([1, 3, 4], [1]) else
  bif Nat.beq f 112 && Nat.beq i 1 then ([2, 5, 6, 7, 8], [2, 14, 51, 57]) else
  bif Nat.beq f 112 && Nat.beq i 3 then ([2, 5, 6, 7, 9], [2, 14, 51, 57]) else
  bif Nat.beq f 112 && Nat.beq i 5 then ([5, 6, 7, 10], [14, 51, 57]) else
  bif Nat.beq f 112 && Nat.beq i 7 then ([5, 6, 7, 10, 11], [14, 51, 57]) else
  bif Nat.beq f 112 && Nat.beq i 9 then ([2, 5, 12, 13], [2, 14, 165]) else
  bif Nat.beq f 113 && Nat.beq i 1 then ([1, 3, 5, 6], [1]) else
  bif Nat.beq f 114 && Nat.beq i 0 then ([1, 2, 5, 6], [2]) else
  ([], [])
def livesX (f i : Nat) : List Nat × List Nat :=
  bif Nat.beq f 14 && Nat.beq i 0 then ([2, 3, 4], [3]) else
  bif Nat.beq f 14 && Nat.beq i 2 then ([2], []) else
  bif Nat.beq f 45 && Nat.beq i 0 then ([0, 1, 5], [7]) else
  bif Nat.beq f 62 && Nat.beq i 0 then ([2], []) else
  bif Nat.beq f 62 && Nat.beq i 2 then ([1, 2, 3], [1]) else
  bif Nat.beq f 63 && Nat.beq i 0 then ([6, 8], []) else
  bif Nat.beq f 65 && Nat.beq i 0 then ([2], []) else
  bif Nat.beq f 65 && Nat.beq i 2 then ([1, 2, 18, 19, 20], [1]) else
  bif Nat.beq f 80 && Nat.beq i 0 then ([6, 7], [10]) else
  bif Nat.beq f 90 && Nat.beq i 0 then ([0, 4, 5, 6], [4, 5, 900, 901]) else
  bif Nat.beq f 90 && Nat.beq i 2 then ([0, 4, 5, 6, 7, 8, 9], [4, 5, 25, 900, 901]) else
  bif Nat.beq f 100 && Nat.beq i 0 then ([4], []) else
  bif Nat.beq f 102 && Nat.beq i 0 then ([0, 3, 4], [8]) else
  bif Nat.beq f 105 && Nat.beq i 0 then ([4, 5, 8], [4, 8, 900]) else
  bif Nat.beq f 105 && Nat.beq i 2 then ([1, 4, 5, 6, 7, 8, 9, 11], [4, 8, 16, 19, 33, 900]) else
  bif Nat.beq f 105 && Nat.beq i 4 then ([1, 4, 6, 7, 8, 9, 10, 11, 12, 13, 14], [4, 8, 16, 19, 32, 33, 900]) else
  bif Nat.beq f 106 && Nat.beq i 0 then ([3], [7]) else
  bif Nat.beq f 106 && Nat.beq i 2 then ([0, 3, 4, 5], [7]) else
  bif Nat.beq f 106 && Nat.beq i 4 then ([0, 3, 4, 5], [7]) else
  bif Nat.beq f 109 && Nat.beq i 0 then ([0, 2], []) else
  bif Nat.beq f 111 && Nat.beq i 1 then ([3], []) else
  bif Nat.beq f 112 && Nat.beq i 1 then ([2, 5, 6, 7], [2, 14, 51, 57]) else
  bif Nat.beq f 112 && Nat.beq i 3 then ([5, 6, 7], [14, 51, 57]) else
  bif Nat.beq f 112 && Nat.beq i 5 then ([5], [14]) else
  bif Nat.beq f 112 && Nat.beq i 7 then ([5, 6, 7, 10], [14, 51, 57]) else
  bif Nat.beq f 112 && Nat.beq i 9 then ([5], [14]) else
  bif Nat.beq f 113 && Nat.beq i 1 then ([2, 5], []) else
  bif Nat.beq f 114 && Nat.beq i 0 then ([5], []) else
  ([], [])
def promT (f i : Nat) : List (Nat × Nat × Nat × Option Nat × Nat × Ty) :=
  bif Nat.beq f 90 && Nat.beq i 0 then [(4, 0, 900, (some 0), 0, (.sl (.st 0))), (5, 0, 901, (some 0), 0, (.sl (.st 0)))] else
  bif Nat.beq f 105 && Nat.beq i 0 then [(8, 0, 900, none, 62, (.sl (.st 0)))] else
  []
def healT (f i : Nat) : List Nat :=
  []
def renT (f i : Nat) : List (Nat × Nat) :=
  []
def inlT (f : Nat) : Bool := memN f []
theorem okP : OkP Try.prog := OkP.mk' (by kernel_rfl) (by kernel_rfl)
def f15.b' {R : Type} (L N : Nat) (k : Bool → Option R) (x0 : LB) : Option R :=
  k ((x0.length : Int) == (8 : Int))
def f15.b {R : Type} (L N : Nat) (k : Bool → Option R) (x0 : LB) : Option R :=
  f15.b' L N k x0
def f15 (L N : Nat) (x0 : LB) : Option (Bool) := f15.b L N some x0
def f15.ent (L N : Nat) (args : List AV) (vw : View) (site : Nat) : Ans := match roD [(.sl .bool)] vw args with
  | some d => ⟨Bool, f15 L N d.1, fun y => ((.tv .bool y), [], [])⟩
  | none => Ans.no
noncomputable def E15 (L N : Nat) : Env := { P := Try.prog, ty := tyOf, Φ := noTells, inl := inlT, live := lives, liveX := livesX, L := L, dp := none, prom := promT, heal := healT, ren := renT }
theorem f15.b_eq {R : Type} (L N : Nat) (κ : AV → Option R) (x0 : LB) :
    evBody (E15 L N) (evCallI (E15 L N) 0 1000) 1000 15 Try.f15 [(.tv (.sl .bool) x0)] [] [] (finC (.one .bool) κ)
    = f15.b L N (fun a0 => κ (.tv .bool a0)) x0 := by kernel_rfl
theorem f15.ok (L N : Nat) (hΦ : TellsOk Try.prog (noTells)) : EntOk Try.prog 15 (f15.ent L N) := by
  intro args vw site h
  unfold f15.ent
  split
  · rename_i d ha
    intro y hy hs
    refine call_ro (dep := 1000) (E := (E15 L N)) (rs := (.one .bool)) (κ := unR (.one .bool)) (sound_of hΦ) okP (callI_sound (sound_of hΦ) okP 0 1000) (f := Try.f15) rfl hs ha ?_ (fun _ h => unR_some h) rfl site
    exact (f15.b_eq L N (unR (.one .bool)) d.1).trans (Eq.trans (b := f15.b L N some d.1) (by kernel_rfl) hy)
  · intro y hy
    cases hy
def Φ15 (L N : Nat) : Tells := (addT noTells 15 (f15.ent L N))
theorem Φ15_ok (L N : Nat) : TellsOk Try.prog (Φ15 L N) := addT_ok (no_ok _) (f15.ok L N (no_ok _))
def f49.b' {R : Type} (L N : Nat) (k : Bool → Option R) (x0 : Int) (x1 : Int) (x2 : Int) : Option R :=
  bif (decide (x0 ≥ x1)) then
    k (decide (x0 ≤ x2))
  else k false
def f49.b {R : Type} (L N : Nat) (k : Bool → Option R) (x0 : Int) (x1 : Int) (x2 : Int) : Option R :=
  f49.b' L N k x0 x1 x2
def f49 (L N : Nat) (x0 : Int) (x1 : Int) (x2 : Int) : Option (Bool) := f49.b L N some x0 x1 x2
def f49.ent (L N : Nat) (args : List AV) (vw : View) (site : Nat) : Ans := match roD [i64, i64, i64] vw args with
  | some d => ⟨Bool, f49 L N d.1 d.2.1 d.2.2.1, fun y => ((.tv .bool y), [], [])⟩
  | none => Ans.no
noncomputable def E49 (L N : Nat) : Env := { P := Try.prog, ty := tyOf, Φ := (Φ15 L N), inl := inlT, live := lives, liveX := livesX, L := L, dp := none, prom := promT, heal := healT, ren := renT }
theorem f49.b_eq {R : Type} (L N : Nat) (κ : AV → Option R) (x0 : Int) (x1 : Int) (x2 : Int) :
    evBody (E49 L N) (evCallI (E49 L N) 0 1000) 1000 49 Try.f49 [(.tv i64 x0), (.tv i64 x1), (.tv i64 x2)] [] [] (finC (.one .bool) κ)
    = f49.b L N (fun a0 => κ (.tv .bool a0)) x0 x1 x2 := by kernel_rfl
theorem f49.ok (L N : Nat) (hΦ : TellsOk Try.prog ((Φ15 L N))) : EntOk Try.prog 49 (f49.ent L N) := by
  intro args vw site h
  unfold f49.ent
  split
  · rename_i d ha
    intro y hy hs
    refine call_ro (dep := 1000) (E := (E49 L N)) (rs := (.one .bool)) (κ := unR (.one .bool)) (sound_of hΦ) okP (callI_sound (sound_of hΦ) okP 0 1000) (f := Try.f49) rfl hs ha ?_ (fun _ h => unR_some h) rfl site
    exact (f49.b_eq L N (unR (.one .bool)) d.1 d.2.1 d.2.2.1).trans (Eq.trans (b := f49.b L N some d.1 d.2.1 d.2.2.1) (by kernel_rfl) hy)
  · intro y hy
    cases hy
def Φ49 (L N : Nat) : Tells := (addT (Φ15 L N) 49 (f49.ent L N))
theorem Φ49_ok (L N : Nat) : TellsOk Try.prog (Φ49 L N) := addT_ok (Φ15_ok L N) (f49.ok L N (Φ15_ok L N))
def f46.b' {R : Type} (L N : Nat) (k : Bool → Option R) (x0 : Int) : Option R :=
  (f49 L N x0 (-4 : Int) (4 : Int)).bind fun y0 =>
  k y0
def f46.b {R : Type} (L N : Nat) (k : Bool → Option R) (x0 : Int) : Option R :=
  f46.b' L N k x0
def f46 (L N : Nat) (x0 : Int) : Option (Bool) := f46.b L N some x0
def f46.ent (L N : Nat) (args : List AV) (vw : View) (site : Nat) : Ans := match roD [i64] vw args with
  | some d => ⟨Bool, f46 L N d.1, fun y => ((.tv .bool y), [], [])⟩
  | none => Ans.no
noncomputable def E46 (L N : Nat) : Env := { P := Try.prog, ty := tyOf, Φ := (Φ49 L N), inl := inlT, live := lives, liveX := livesX, L := L, dp := none, prom := promT, heal := healT, ren := renT }
theorem f46.b_eq {R : Type} (L N : Nat) (κ : AV → Option R) (x0 : Int) :
    evBody (E46 L N) (evCallI (E46 L N) 0 1000) 1000 46 Try.f46 [(.tv i64 x0)] [] [] (finC (.one .bool) κ)
    = f46.b L N (fun a0 => κ (.tv .bool a0)) x0 := by kernel_rfl
theorem f46.ok (L N : Nat) (hΦ : TellsOk Try.prog ((Φ49 L N))) : EntOk Try.prog 46 (f46.ent L N) := by
  intro args vw site h
  unfold f46.ent
  split
  · rename_i d ha
    intro y hy hs
    refine call_ro (dep := 1000) (E := (E46 L N)) (rs := (.one .bool)) (κ := unR (.one .bool)) (sound_of hΦ) okP (callI_sound (sound_of hΦ) okP 0 1000) (f := Try.f46) rfl hs ha ?_ (fun _ h => unR_some h) rfl site
    exact (f46.b_eq L N (unR (.one .bool)) d.1).trans (Eq.trans (b := f46.b L N some d.1) (by kernel_rfl) hy)
  · intro y hy
    cases hy
def Φ46 (L N : Nat) : Tells := (addT (Φ49 L N) 46 (f46.ent L N))
theorem Φ46_ok (L N : Nat) : TellsOk Try.prog (Φ46 L N) := addT_ok (Φ49_ok L N) (f46.ok L N (Φ49_ok L N))
def f79.b' {R : Type} (L N : Nat) (k : Bool → Option R) (x0 : Move) (x1 : Move) : Option R :=
  bif (decide (x0.act < x1.act)) then
    k true
  else bif (x0.act == x1.act) then
    k (decide (x0.to < x1.to))
  else k false
def f79.b {R : Type} (L N : Nat) (k : Bool → Option R) (x0 : Move) (x1 : Move) : Option R :=
  f79.b' L N k x0 x1
def f79 (L N : Nat) (x0 : Move) (x1 : Move) : Option (Bool) := f79.b L N some x0 x1
def f79.ent (L N : Nat) (args : List AV) (vw : View) (site : Nat) : Ans := match roD [(.st 0), (.st 0)] vw args with
  | some d => ⟨Bool, f79 L N d.1 d.2.1, fun y => ((.tv .bool y), [], [])⟩
  | none => Ans.no
noncomputable def E79 (L N : Nat) : Env := { P := Try.prog, ty := tyOf, Φ := (Φ46 L N), inl := inlT, live := lives, liveX := livesX, L := L, dp := none, prom := promT, heal := healT, ren := renT }
theorem f79.b_eq {R : Type} (L N : Nat) (κ : AV → Option R) (x0 : Move) (x1 : Move) :
    evBody (E79 L N) (evCallI (E79 L N) 0 1000) 1000 79 Try.f79 [(.tv (.st 0) x0), (.tv (.st 0) x1)] [] [] (finC (.one .bool) κ)
    = f79.b L N (fun a0 => κ (.tv .bool a0)) x0 x1 := by kernel_rfl
theorem f79.ok (L N : Nat) (hΦ : TellsOk Try.prog ((Φ46 L N))) : EntOk Try.prog 79 (f79.ent L N) := by
  intro args vw site h
  unfold f79.ent
  split
  · rename_i d ha
    intro y hy hs
    refine call_ro (dep := 1000) (E := (E79 L N)) (rs := (.one .bool)) (κ := unR (.one .bool)) (sound_of hΦ) okP (callI_sound (sound_of hΦ) okP 0 1000) (f := Try.f79) rfl hs ha ?_ (fun _ h => unR_some h) rfl site
    exact (f79.b_eq L N (unR (.one .bool)) d.1 d.2.1).trans (Eq.trans (b := f79.b L N some d.1 d.2.1) (by kernel_rfl) hy)
  · intro y hy
    cases hy
def Φ79 (L N : Nat) : Tells := (addT (Φ46 L N) 79 (f79.ent L N))
theorem Φ79_ok (L N : Nat) : TellsOk Try.prog (Φ79 L N) := addT_ok (Φ46_ok L N) (f79.ok L N (Φ46_ok L N))
def f62.s1' {R : Type} (L N : Nat) (k1_e2 : Int → LLM → Option R) (k1_r : Bool → Int → LLM → Option R) (rec1 : Int → Int → LLM → Option R) (s3 : Int) (s4 : Int) (s5 : LLM) : Option R :=
  bif (decide (0 ≤ s3) && decide (s3 < (s5.length : Int))) then
    bif (decide (s4 < ((listAt s5 [] s3.toNat).length : Int))) then
      bif (decide (0 ≤ s3) && decide (s3 < (s5.length : Int))) then
        bif (decide (0 ≤ s4) && decide (s4 < ((listAt s5 [] s3.toNat).length : Int))) then
          (f46 L N ((listAt (listAt s5 [] s3.toNat) (Ty.dflt (.st 0)) s4.toNat).act)).bind fun y8 =>
          bif (!y8) then
            k1_r false s3 s5
          else (f49 L N ((listAt (listAt s5 [] s3.toNat) (Ty.dflt (.st 0)) s4.toNat).to) (0 : Int) (wi ((s5.length : Int) - (1 : Int)))).bind fun y9 =>
          bif (!y9) then
            k1_r false s3 s5
          else bif (decide (s4 > (0 : Int))) then
            bif (decide (0 ≤ s3) && decide (s3 < (s5.length : Int))) then
              bif (decide (0 ≤ (wi (s4 - (1 : Int)))) && decide ((wi (s4 - (1 : Int))) < ((listAt s5 [] s3.toNat).length : Int))) then
                (f79 L N (listAt (listAt s5 [] s3.toNat) (Ty.dflt (.st 0)) (wi (s4 - (1 : Int))).toNat) (Move.mk ((listAt (listAt s5 [] s3.toNat) (Ty.dflt (.st 0)) s4.toNat).act) ((listAt (listAt s5 [] s3.toNat) (Ty.dflt (.st 0)) s4.toNat).to))).bind fun y10 =>
                bif (!y10) then
                  k1_r false s3 s5
                else rec1 s3 (wi (s4 + (1 : Int))) s5
              else none
            else none
          else rec1 s3 (wi (s4 + (1 : Int))) s5
        else none
      else none
    else k1_e2 s3 s5
  else none
def f62.s1 {R : Type} (L N : Nat) (k1_e2 : Int → LLM → Option R) (k1_r : Bool → Int → LLM → Option R) (rec1 : Int → Int → LLM → Option R) (s3 : Int) (s4 : Int) (s5 : LLM) : Option R :=
  f62.s1' L N k1_e2 k1_r rec1 s3 s4 s5
def f62.l1 {R : Type} (L N : Nat) (k1_e2 : Int → LLM → Option R) (k1_r : Bool → Int → LLM → Option R) : Nat → Int → Int → LLM → Option R
  | 0, _, _, _ => none
  | n + 1, s3, s4, s5 => f62.s1 L N k1_e2 k1_r (f62.l1 L N k1_e2 k1_r n) s3 s4 s5
def f62.T1 (s3 : Int) (s4 : Int) (s5 : LLM) : T := mkT 68 [(1, (.ptr 1001 0)), (3, (.tv i64 s3)), (4, (.tv i64 s4))]
def f62.H1 (s3 : Int) (s4 : Int) (s5 : LLM) : H := [(1001, (.box [(.tv (.sl (.sl (.st 0))) s5)]))]
def f62.T1_e2 (z6 : Int) (z7 : LLM) : T := mkT 68 [(1, (.ptr 1001 0)), (3, (.tv i64 z6))]
def f62.H1_e2 (z6 : Int) (z7 : LLM) : H := [(1001, (.box [(.tv (.sl (.sl (.st 0))) z7)]))]
def f62.T1_r (z15 : Bool) (z16 : Int) (z17 : LLM) : T := mkT 68 [(1, (.ptr 1001 0)), (2, (.tv .bool z15)), (3, (.tv i64 z16))]
def f62.H1_r (z15 : Bool) (z16 : Int) (z17 : LLM) : H := [(1001, (.box [(.tv (.sl (.sl (.st 0))) z17)]))]
def f62.p1_e2' {R : Type} (L N : Nat) (k0_e0 : Option R) (k0_r : Bool → Option R) (rec0 : Int → LLM → Option R) (z6 : Int) (z7 : LLM) : Option R :=
  rec0 (wi (z6 + (1 : Int))) z7
def f62.p1_e2 {R : Type} (L N : Nat) (k0_e0 : Option R) (k0_r : Bool → Option R) (rec0 : Int → LLM → Option R) (z6 : Int) (z7 : LLM) : Option R :=
  f62.p1_e2' L N k0_e0 k0_r rec0 z6 z7
def f62.p1_r' {R : Type} (L N : Nat) (k0_e0 : Option R) (k0_r : Bool → Option R) (rec0 : Int → LLM → Option R) (z15 : Bool) (z16 : Int) (z17 : LLM) : Option R :=
  k0_r z15
def f62.p1_r {R : Type} (L N : Nat) (k0_e0 : Option R) (k0_r : Bool → Option R) (rec0 : Int → LLM → Option R) (z15 : Bool) (z16 : Int) (z17 : LLM) : Option R :=
  f62.p1_r' L N k0_e0 k0_r rec0 z15 z16 z17
def f62.s0' {R : Type} (L N : Nat) (k0_e0 : Option R) (k0_r : Bool → Option R) (rec0 : Int → LLM → Option R) (w1 : Int → Int → LLM → Option R) (s1 : Int) (s2 : LLM) : Option R :=
  bif (decide (s1 < (s2.length : Int))) then
    w1 s1 (0 : Int) s2
  else k0_e0
def f62.s0 {R : Type} (L N : Nat) (k0_e0 : Option R) (k0_r : Bool → Option R) (rec0 : Int → LLM → Option R) (s1 : Int) (s2 : LLM) : Option R :=
  f62.s0' L N k0_e0 k0_r rec0 (fun s3 s4 s5 => f62.l1 L N (fun z6 z7 => f62.p1_e2 L N k0_e0 k0_r rec0 z6 z7) (fun z15 z16 z17 => f62.p1_r L N k0_e0 k0_r rec0 z15 z16 z17) L s3 s4 s5) s1 s2
def f62.l0 {R : Type} (L N : Nat) (k0_e0 : Option R) (k0_r : Bool → Option R) : Nat → Int → LLM → Option R
  | 0, _, _ => none
  | n + 1, s1, s2 => f62.s0 L N k0_e0 k0_r (f62.l0 L N k0_e0 k0_r n) s1 s2
def f62.T0 (s1 : Int) (s2 : LLM) : T := mkT 68 [(1, (.ptr 1001 0)), (3, (.tv i64 s1))]
def f62.H0 (s1 : Int) (s2 : LLM) : H := [(1001, (.box [(.tv (.sl (.sl (.st 0))) s2)]))]
def f62.T0_e0 : T := mkT 68 []
def f62.H0_e0 : H := []
def f62.T0_r (z21 : Bool) : T := mkT 68 [(2, (.tv .bool z21))]
def f62.H0_r (z21 : Bool) : H := []
def f62.p0_e0' {R : Type} (L N : Nat) (k : Bool → Option R) : Option R :=
  k true
def f62.p0_e0 {R : Type} (L N : Nat) (k : Bool → Option R) : Option R :=
  f62.p0_e0' L N k
def f62.p0_r' {R : Type} (L N : Nat) (k : Bool → Option R) (z21 : Bool) : Option R :=
  k z21
def f62.p0_r {R : Type} (L N : Nat) (k : Bool → Option R) (z21 : Bool) : Option R :=
  f62.p0_r' L N k z21
def f62.b' {R : Type} (L N : Nat) (k : Bool → Option R) (w0 : Int → LLM → Option R) (x0 : Graph) : Option R :=
  (f49 L N (x0.moves.length : Int) (1 : Int) (60 : Int)).bind fun y0 =>
  bif (!y0) then
    k false
  else w0 (0 : Int) x0.moves
def f62.b {R : Type} (L N : Nat) (k : Bool → Option R) (x0 : Graph) : Option R :=
  f62.b' L N k (fun s1 s2 => f62.l0 L N (f62.p0_e0 L N k) (fun z21 => f62.p0_r L N k z21) L s1 s2) x0
def f62 (L N : Nat) (x0 : Graph) : Option (Bool) := f62.b L N some x0
def f62.ent (L N : Nat) (args : List AV) (vw : View) (site : Nat) : Ans := match roD [(.st 2)] vw args with
  | some d => ⟨Bool, f62 L N d.1, fun y => ((.tv .bool y), [], [])⟩
  | none => Ans.no
noncomputable def E62 (L N : Nat) : Env := { P := Try.prog, ty := tyOf, Φ := (Φ79 L N), inl := inlT, live := lives, liveX := livesX, L := L, dp := none, prom := promT, heal := healT, ren := renT }
noncomputable def f62.c0 : Code := loopAt 0 (codeOf Try.f62)
noncomputable def f62.c1 : Code := loopAt 2 f62.c0
theorem f62.s1_eq {R : Type} (L N : Nat) (κ : Ex → T → H → Option R) (rec : T → H → Option R) (s3 : Int) (s4 : Int) (s5 : LLM) :
    evRd (E62 L N) (evCallI (E62 L N) 0 1000) 1000 62 68 2 f62.c1 κ rec (f62.T1 s3 s4 s5) (f62.H1 s3 s4 s5)
    = f62.s1 L N (fun z6 z7 => κ (.exit 2) (f62.T1_e2 z6 z7) (f62.H1_e2 z6 z7)) (fun z15 z16 z17 => κ .ret (f62.T1_r z15 z16 z17) (f62.H1_r z15 z16 z17)) (fun s3 s4 s5 => rec (f62.T1 s3 s4 s5) (f62.H1 s3 s4 s5)) s3 s4 s5 := by kernel_rfl
theorem f62.l1_eq {R : Type} (L N : Nat) (κ : Ex → T → H → Option R) : ∀ (n : Nat) (s3 : Int) (s4 : Int) (s5 : LLM),
    evLp (E62 L N) (evCallI (E62 L N) 0 1000) 1000 62 68 2 f62.c1 κ n (f62.T1 s3 s4 s5) (f62.H1 s3 s4 s5)
    = f62.l1 L N (fun z6 z7 => κ (.exit 2) (f62.T1_e2 z6 z7) (f62.H1_e2 z6 z7)) (fun z15 z16 z17 => κ .ret (f62.T1_r z15 z16 z17) (f62.H1_r z15 z16 z17)) n s3 s4 s5 := by
  intro n
  induction n with
  | zero => intros; rfl
  | succ n ih =>
    intro s3 s4 s5
    rw [evLp_succ, f62.s1_eq]
    simp only [ih]
    rfl
theorem f62.p1_e2_eq {R : Type} (L N : Nat) (κ : Ex → T → H → Option R) (rec : T → H → Option R) (z6 : Int) (z7 : LLM) :
    (contAt (E62 L N) (evCallI (E62 L N) 0 1000) 1000 62 68 2 f62.c0 (rdK (E62 L N) 1000 62 68 0 κ rec)) (.exit 2) (f62.T1_e2 z6 z7) (f62.H1_e2 z6 z7)
    = f62.p1_e2 L N (κ (.exit 0) f62.T0_e0 f62.H0_e0) (fun z21 => κ .ret (f62.T0_r z21) (f62.H0_r z21)) (fun s1 s2 => rec (f62.T0 s1 s2) (f62.H0 s1 s2)) z6 z7 := by kernel_rfl
theorem f62.p1_r_eq {R : Type} (L N : Nat) (κ : Ex → T → H → Option R) (rec : T → H → Option R) (z15 : Bool) (z16 : Int) (z17 : LLM) :
    (contAt (E62 L N) (evCallI (E62 L N) 0 1000) 1000 62 68 2 f62.c0 (rdK (E62 L N) 1000 62 68 0 κ rec)) .ret (f62.T1_r z15 z16 z17) (f62.H1_r z15 z16 z17)
    = f62.p1_r L N (κ (.exit 0) f62.T0_e0 f62.H0_e0) (fun z21 => κ .ret (f62.T0_r z21) (f62.H0_r z21)) (fun s1 s2 => rec (f62.T0 s1 s2) (f62.H0 s1 s2)) z15 z16 z17 := by kernel_rfl
theorem f62.s0_eq {R : Type} (L N : Nat) (κ : Ex → T → H → Option R) (rec : T → H → Option R) (s1 : Int) (s2 : LLM) :
    evRd (E62 L N) (evCallI (E62 L N) 0 1000) 1000 62 68 0 f62.c0 κ rec (f62.T0 s1 s2) (f62.H0 s1 s2)
    = f62.s0 L N (κ (.exit 0) f62.T0_e0 f62.H0_e0) (fun z21 => κ .ret (f62.T0_r z21) (f62.H0_r z21)) (fun s1 s2 => rec (f62.T0 s1 s2) (f62.H0 s1 s2)) s1 s2 := by
  refine Eq.trans (b := f62.s0' L N (κ (.exit 0) f62.T0_e0 f62.H0_e0) (fun z21 => κ .ret (f62.T0_r z21) (f62.H0_r z21)) (fun s1 s2 => rec (f62.T0 s1 s2) (f62.H0 s1 s2)) (fun s3 s4 s5 => evLp (E62 L N) (evCallI (E62 L N) 0 1000) 1000 62 68 2 f62.c1 (contAt (E62 L N) (evCallI (E62 L N) 0 1000) 1000 62 68 2 f62.c0 (rdK (E62 L N) 1000 62 68 0 κ rec)) L (f62.T1 s3 s4 s5) (f62.H1 s3 s4 s5)) s1 s2) (by kernel_rfl) ?_
  unfold f62.s0
  simp only [f62.l1_eq, f62.p1_e2_eq, f62.p1_r_eq]
theorem f62.l0_eq {R : Type} (L N : Nat) (κ : Ex → T → H → Option R) : ∀ (n : Nat) (s1 : Int) (s2 : LLM),
    evLp (E62 L N) (evCallI (E62 L N) 0 1000) 1000 62 68 0 f62.c0 κ n (f62.T0 s1 s2) (f62.H0 s1 s2)
    = f62.l0 L N (κ (.exit 0) f62.T0_e0 f62.H0_e0) (fun z21 => κ .ret (f62.T0_r z21) (f62.H0_r z21)) n s1 s2 := by
  intro n
  induction n with
  | zero => intros; rfl
  | succ n ih =>
    intro s1 s2
    rw [evLp_succ, f62.s0_eq]
    simp only [ih]
    rfl
theorem f62.p0_e0_eq {R : Type} (L N : Nat) (κ : AV → Option R) :
    (contAt (E62 L N) (evCallI (E62 L N) 0 1000) 1000 62 68 0 (codeOf Try.f62) (finK (E62 L N) 1000 Try.f62 (finC (.one .bool) κ))) (.exit 0) f62.T0_e0 f62.H0_e0
    = f62.p0_e0 L N (fun a0 => κ (.tv .bool a0)) := by kernel_rfl
theorem f62.p0_r_eq {R : Type} (L N : Nat) (κ : AV → Option R) (z21 : Bool) :
    (contAt (E62 L N) (evCallI (E62 L N) 0 1000) 1000 62 68 0 (codeOf Try.f62) (finK (E62 L N) 1000 Try.f62 (finC (.one .bool) κ))) .ret (f62.T0_r z21) (f62.H0_r z21)
    = f62.p0_r L N (fun a0 => κ (.tv .bool a0)) z21 := by kernel_rfl
theorem f62.b_eq {R : Type} (L N : Nat) (κ : AV → Option R) (x0 : Graph) :
    evBody (E62 L N) (evCallI (E62 L N) 0 1000) 1000 62 Try.f62 [(.tv (.st 2) x0)] [] [] (finC (.one .bool) κ)
    = f62.b L N (fun a0 => κ (.tv .bool a0)) x0 := by
  refine Eq.trans (b := f62.b' L N (fun a0 => κ (.tv .bool a0)) (fun s1 s2 => evLp (E62 L N) (evCallI (E62 L N) 0 1000) 1000 62 68 0 f62.c0 (contAt (E62 L N) (evCallI (E62 L N) 0 1000) 1000 62 68 0 (codeOf Try.f62) (finK (E62 L N) 1000 Try.f62 (finC (.one .bool) κ))) L (f62.T0 s1 s2) (f62.H0 s1 s2)) x0) (by kernel_rfl) ?_
  unfold f62.b
  simp only [f62.l0_eq, f62.p0_e0_eq, f62.p0_r_eq]
theorem f62.ok (L N : Nat) (hΦ : TellsOk Try.prog ((Φ79 L N))) : EntOk Try.prog 62 (f62.ent L N) := by
  intro args vw site h
  unfold f62.ent
  split
  · rename_i d ha
    intro y hy hs
    refine call_ro (dep := 1000) (E := (E62 L N)) (rs := (.one .bool)) (κ := unR (.one .bool)) (sound_of hΦ) okP (callI_sound (sound_of hΦ) okP 0 1000) (f := Try.f62) rfl hs ha ?_ (fun _ h => unR_some h) rfl site
    exact (f62.b_eq L N (unR (.one .bool)) d.1).trans (Eq.trans (b := f62.b L N some d.1) (by kernel_rfl) hy)
  · intro y hy
    cases hy
def Φ62 (L N : Nat) : Tells := (addT (Φ79 L N) 62 (f62.ent L N))
theorem Φ62_ok (L N : Nat) : TellsOk Try.prog (Φ62 L N) := addT_ok (Φ79_ok L N) (f62.ok L N (Φ79_ok L N))
def f96.b' {R : Type} (L N : Nat) (k : Int → Option R) (x0 : Int) : Option R :=
  bif (decide (x0 > (0 : Int))) then
    k (wi ((wi ((4 : Int) + x0)) - (1 : Int)))
  else k (wi ((wi (0 - x0)) - (1 : Int)))
def f96.b {R : Type} (L N : Nat) (k : Int → Option R) (x0 : Int) : Option R :=
  f96.b' L N k x0
def f96 (L N : Nat) (x0 : Int) : Option (Int) := f96.b L N some x0
def f96.ent (L N : Nat) (args : List AV) (vw : View) (site : Nat) : Ans := match roD [i64] vw args with
  | some d => ⟨Int, f96 L N d.1, fun y => ((.tv i64 y), [], [])⟩
  | none => Ans.no
noncomputable def E96 (L N : Nat) : Env := { P := Try.prog, ty := tyOf, Φ := (Φ62 L N), inl := inlT, live := lives, liveX := livesX, L := L, dp := none, prom := promT, heal := healT, ren := renT }
theorem f96.b_eq {R : Type} (L N : Nat) (κ : AV → Option R) (x0 : Int) :
    evBody (E96 L N) (evCallI (E96 L N) 0 1000) 1000 96 Try.f96 [(.tv i64 x0)] [] [] (finC (.one i64) κ)
    = f96.b L N (fun a0 => κ (.tv i64 a0)) x0 := by kernel_rfl
theorem f96.ok (L N : Nat) (hΦ : TellsOk Try.prog ((Φ62 L N))) : EntOk Try.prog 96 (f96.ent L N) := by
  intro args vw site h
  unfold f96.ent
  split
  · rename_i d ha
    intro y hy hs
    refine call_ro (dep := 1000) (E := (E96 L N)) (rs := (.one i64)) (κ := unR (.one i64)) (sound_of hΦ) okP (callI_sound (sound_of hΦ) okP 0 1000) (f := Try.f96) rfl hs ha ?_ (fun _ h => unR_some h) rfl site
    exact (f96.b_eq L N (unR (.one i64)) d.1).trans (Eq.trans (b := f96.b L N some d.1) (by kernel_rfl) hy)
  · intro y hy
    cases hy
def Φ96 (L N : Nat) : Tells := (addT (Φ62 L N) 96 (f96.ent L N))
theorem Φ96_ok (L N : Nat) : TellsOk Try.prog (Φ96 L N) := addT_ok (Φ62_ok L N) (f96.ok L N (Φ62_ok L N))
def f80.s0' {R : Type} (L N : Nat) (k0_e0 : Bool → LB → Option R) (rec0 : Int → Bool → Int → LLM → LB → Option R) (s0 : Int) (s1 : Bool) (s2 : Int) (s3 : LLM) (s4 : LB) : Option R :=
  bif (decide (0 ≤ s0) && decide (s0 < (s3.length : Int))) then
    bif (decide (s2 < ((listAt s3 [] s0.toNat).length : Int))) then
      bif (decide (0 ≤ s0) && decide (s0 < (s3.length : Int))) then
        bif (decide (0 ≤ s2) && decide (s2 < ((listAt s3 [] s0.toNat).length : Int))) then
          bif ((listAt (listAt s3 [] s0.toNat) (Ty.dflt (.st 0)) s2.toNat).act == (0 : Int)) then
            rec0 s0 false (wi (s2 + (1 : Int))) s3 s4
          else (f96 L N ((listAt (listAt s3 [] s0.toNat) (Ty.dflt (.st 0)) s2.toNat).act)).bind fun y7 =>
          bif (decide (0 ≤ y7) && decide (y7 < (s4.length : Int))) then
            rec0 s0 s1 (wi (s2 + (1 : Int))) s3 (s4.set y7.toNat true)
          else none
        else none
      else none
    else k0_e0 s1 s4
  else none
def f80.s0 {R : Type} (L N : Nat) (k0_e0 : Bool → LB → Option R) (rec0 : Int → Bool → Int → LLM → LB → Option R) (s0 : Int) (s1 : Bool) (s2 : Int) (s3 : LLM) (s4 : LB) : Option R :=
  f80.s0' L N k0_e0 rec0 s0 s1 s2 s3 s4
def f80.l0 {R : Type} (L N : Nat) (k0_e0 : Bool → LB → Option R) : Nat → Int → Bool → Int → LLM → LB → Option R
  | 0, _, _, _, _, _ => none
  | n + 1, s0, s1, s2, s3, s4 => f80.s0 L N k0_e0 (f80.l0 L N k0_e0 n) s0 s1 s2 s3 s4
def f80.T0 (s0 : Int) (s1 : Bool) (s2 : Int) (s3 : LLM) (s4 : LB) : T := mkT 38 [(1, (.tv i64 s0)), (2, (.ptr 1002 0)), (6, (.row 1010)), (7, (.tv .bool s1)), (8, (.tv i64 s2))]
def f80.H0 (s0 : Int) (s1 : Bool) (s2 : Int) (s3 : LLM) (s4 : LB) : H := [(1002, (.box [(.tv (.sl (.sl (.st 0))) s3)])), (1010, (.row 4 .bool s4))]
def f80.T0_e0 (z5 : Bool) (z6 : LB) : T := mkT 38 [(6, (.row 1010)), (7, (.tv .bool z5))]
def f80.H0_e0 (z5 : Bool) (z6 : LB) : H := [(1010, (.row 4 .bool z6))]
def f80.p0_e0' {R : Type} (L N : Nat) (k : LB → Bool → Option R) (z5 : Bool) (z6 : LB) : Option R :=
  k z6 z5
def f80.p0_e0 {R : Type} (L N : Nat) (k : LB → Bool → Option R) (z5 : Bool) (z6 : LB) : Option R :=
  f80.p0_e0' L N k z5 z6
def f80.b' {R : Type} (L N : Nat) (k : LB → Bool → Option R) (w0 : Int → Bool → Int → LLM → LB → Option R) (x0 : Graph) (x1 : Int) : Option R :=
  bif (decide (0 ≤ (8 : Int)) && decide ((8 : Int) ≤ (lim : Int))) then
    w0 x1 true (0 : Int) x0.moves (List.replicate (8 : Int).toNat false)
  else none
def f80.b {R : Type} (L N : Nat) (k : LB → Bool → Option R) (x0 : Graph) (x1 : Int) : Option R :=
  f80.b' L N k (fun s0 s1 s2 s3 s4 => f80.l0 L N (fun z5 z6 => f80.p0_e0 L N k z5 z6) L s0 s1 s2 s3 s4) x0 x1
def f80 (L N : Nat) (x0 : Graph) (x1 : Int) : Option (LB × Bool) := f80.b L N (fun a0 a1 => some (a0, a1)) x0 x1
def f80.ent (L N : Nat) (args : List AV) (vw : View) (site : Nat) : Ans := match coeD [(.st 2), i64] vw args with
  | some (d, u) => ⟨LB × Bool, f80 L N d.1 d.2.1, fun y => ((.tup [(.tv (.sl .bool) y.1), (.tv .bool y.2)]), u, [])⟩
  | none => Ans.no
noncomputable def E80 (L N : Nat) : Env := { P := Try.prog, ty := tyOf, Φ := (Φ96 L N), inl := inlT, live := lives, liveX := livesX, L := L, dp := none, prom := promT, heal := healT, ren := renT }
noncomputable def f80.c0 : Code := loopAt 0 (codeOf Try.f80)
theorem f80.s0_eq {R : Type} (L N : Nat) (κ : Ex → T → H → Option R) (rec : T → H → Option R) (s0 : Int) (s1 : Bool) (s2 : Int) (s3 : LLM) (s4 : LB) :
    evRd (E80 L N) (evCallI (E80 L N) 0 1000) 1000 80 38 0 f80.c0 κ rec (f80.T0 s0 s1 s2 s3 s4) (f80.H0 s0 s1 s2 s3 s4)
    = f80.s0 L N (fun z5 z6 => κ (.exit 0) (f80.T0_e0 z5 z6) (f80.H0_e0 z5 z6)) (fun s0 s1 s2 s3 s4 => rec (f80.T0 s0 s1 s2 s3 s4) (f80.H0 s0 s1 s2 s3 s4)) s0 s1 s2 s3 s4 := by kernel_rfl
theorem f80.l0_eq {R : Type} (L N : Nat) (κ : Ex → T → H → Option R) : ∀ (n : Nat) (s0 : Int) (s1 : Bool) (s2 : Int) (s3 : LLM) (s4 : LB),
    evLp (E80 L N) (evCallI (E80 L N) 0 1000) 1000 80 38 0 f80.c0 κ n (f80.T0 s0 s1 s2 s3 s4) (f80.H0 s0 s1 s2 s3 s4)
    = f80.l0 L N (fun z5 z6 => κ (.exit 0) (f80.T0_e0 z5 z6) (f80.H0_e0 z5 z6)) n s0 s1 s2 s3 s4 := by
  intro n
  induction n with
  | zero => intros; rfl
  | succ n ih =>
    intro s0 s1 s2 s3 s4
    rw [evLp_succ, f80.s0_eq]
    simp only [ih]
    rfl
theorem f80.p0_e0_eq {R : Type} (L N : Nat) (κ : AV → Option R) (z5 : Bool) (z6 : LB) :
    (contAt (E80 L N) (evCallI (E80 L N) 0 1000) 1000 80 38 0 (codeOf Try.f80) (finK (E80 L N) 1000 Try.f80 (finC (.many [(.sl .bool), .bool]) κ))) (.exit 0) (f80.T0_e0 z5 z6) (f80.H0_e0 z5 z6)
    = f80.p0_e0 L N (fun a0 a1 => κ (.tup [(.tv (.sl .bool) a0), (.tv .bool a1)])) z5 z6 := by kernel_rfl
theorem f80.b_eq {R : Type} (L N : Nat) (κ : AV → Option R) (x0 : Graph) (x1 : Int) :
    evBody (E80 L N) (evCallI (E80 L N) 0 1000) 1000 80 Try.f80 [(.tv (.st 2) x0), (.tv i64 x1)] [] [] (finC (.many [(.sl .bool), .bool]) κ)
    = f80.b L N (fun a0 a1 => κ (.tup [(.tv (.sl .bool) a0), (.tv .bool a1)])) x0 x1 := by
  refine Eq.trans (b := f80.b' L N (fun a0 a1 => κ (.tup [(.tv (.sl .bool) a0), (.tv .bool a1)])) (fun s0 s1 s2 s3 s4 => evLp (E80 L N) (evCallI (E80 L N) 0 1000) 1000 80 38 0 f80.c0 (contAt (E80 L N) (evCallI (E80 L N) 0 1000) 1000 80 38 0 (codeOf Try.f80) (finK (E80 L N) 1000 Try.f80 (finC (.many [(.sl .bool), .bool]) κ))) L (f80.T0 s0 s1 s2 s3 s4) (f80.H0 s0 s1 s2 s3 s4)) x0 x1) (by kernel_rfl) ?_
  unfold f80.b
  simp only [f80.l0_eq, f80.p0_e0_eq]
theorem f80.ok (L N : Nat) (hΦ : TellsOk Try.prog ((Φ96 L N))) : EntOk Try.prog 80 (f80.ent L N) := by
  intro args vw site h
  unfold f80.ent
  split
  · rename_i d u ha
    intro y hy hs
    refine call_data (dep := 1000) (E := (E80 L N)) (rs := (.many [(.sl .bool), .bool])) (κ := unR (.many [(.sl .bool), .bool])) (sound_of hΦ) okP (callI_sound (sound_of hΦ) okP 0 1000) (f := Try.f80) rfl hs ha ?_ (fun _ h => unR_some h) site
    exact (f80.b_eq L N (unR (.many [(.sl .bool), .bool])) d.1 d.2.1).trans (Eq.trans (b := f80.b L N (fun a0 a1 => some (a0, a1)) d.1 d.2.1) (by kernel_rfl) hy)
  · intro y hy
    cases hy
def Φ80 (L N : Nat) : Tells := (addT (Φ96 L N) 80 (f80.ent L N))
theorem Φ80_ok (L N : Nat) : TellsOk Try.prog (Φ80 L N) := addT_ok (Φ96_ok L N) (f80.ok L N (Φ96_ok L N))
def f63.s0' {R : Type} (L N : Nat) (k0_e0 : Bool → Option R) (k0_r : Bool → Bool → Option R) (rec0 : LB → LB → Bool → Int → Option R) (s1 : LB) (s2 : LB) (s3 : Bool) (s4 : Int) : Option R :=
  bif (decide (s4 < (s1.length : Int))) then
    bif (decide (0 ≤ s4) && decide (s4 < (s1.length : Int))) then
      bif (listAt s1 false s4.toNat) then
        bif (decide (0 ≤ s4) && decide (s4 < (s2.length : Int))) then
          bif (listAt s2 false s4.toNat) then
            k0_r false s3
          else rec0 s1 s2 s3 (wi (s4 + (1 : Int)))
        else none
      else rec0 s1 s2 s3 (wi (s4 + (1 : Int)))
    else none
  else k0_e0 s3
def f63.s0 {R : Type} (L N : Nat) (k0_e0 : Bool → Option R) (k0_r : Bool → Bool → Option R) (rec0 : LB → LB → Bool → Int → Option R) (s1 : LB) (s2 : LB) (s3 : Bool) (s4 : Int) : Option R :=
  f63.s0' L N k0_e0 k0_r rec0 s1 s2 s3 s4
def f63.l0 {R : Type} (L N : Nat) (k0_e0 : Bool → Option R) (k0_r : Bool → Bool → Option R) : Nat → LB → LB → Bool → Int → Option R
  | 0, _, _, _, _ => none
  | n + 1, s1, s2, s3, s4 => f63.s0 L N k0_e0 k0_r (f63.l0 L N k0_e0 k0_r n) s1 s2 s3 s4
def f63.T0 (s1 : LB) (s2 : LB) (s3 : Bool) (s4 : Int) : T := mkT 33 [(2, (.tv (.sl .bool) s1)), (7, (.tv (.sl .bool) s2)), (8, (.tv .bool s3)), (9, (.tv i64 s4))]
def f63.H0 (s1 : LB) (s2 : LB) (s3 : Bool) (s4 : Int) : H := []
def f63.T0_e0 (z5 : Bool) : T := mkT 33 [(8, (.tv .bool z5))]
def f63.H0_e0 (z5 : Bool) : H := []
def f63.T0_r (z11 : Bool) (z12 : Bool) : T := mkT 33 [(6, (.tv .bool z11)), (8, (.tv .bool z12))]
def f63.H0_r (z11 : Bool) (z12 : Bool) : H := []
def f63.p0_e0' {R : Type} (L N : Nat) (k : Bool → Option R) (z5 : Bool) : Option R :=
  k z5
def f63.p0_e0 {R : Type} (L N : Nat) (k : Bool → Option R) (z5 : Bool) : Option R :=
  f63.p0_e0' L N k z5
def f63.p0_r' {R : Type} (L N : Nat) (k : Bool → Option R) (z11 : Bool) (z12 : Bool) : Option R :=
  k z11
def f63.p0_r {R : Type} (L N : Nat) (k : Bool → Option R) (z11 : Bool) (z12 : Bool) : Option R :=
  f63.p0_r' L N k z11 z12
def f63.b' {R : Type} (L N : Nat) (k : Bool → Option R) (w0 : LB → LB → Bool → Int → Option R) (x0 : Graph) (x1 : Int) (x2 : LB) : Option R :=
  (f80 L N (Graph.mk x0.moves) x1).bind fun y0 =>
  w0 x2 y0.1 y0.2 (0 : Int)
def f63.b {R : Type} (L N : Nat) (k : Bool → Option R) (x0 : Graph) (x1 : Int) (x2 : LB) : Option R :=
  f63.b' L N k (fun s1 s2 s3 s4 => f63.l0 L N (fun z5 => f63.p0_e0 L N k z5) (fun z11 z12 => f63.p0_r L N k z11 z12) L s1 s2 s3 s4) x0 x1 x2
def f63 (L N : Nat) (x0 : Graph) (x1 : Int) (x2 : LB) : Option (Bool) := f63.b L N some x0 x1 x2
def f63.ent (L N : Nat) (args : List AV) (vw : View) (site : Nat) : Ans := match roD [(.st 2), i64, (.sl .bool)] vw args with
  | some d => ⟨Bool, f63 L N d.1 d.2.1 d.2.2.1, fun y => ((.tv .bool y), [], [])⟩
  | none => Ans.no
noncomputable def E63 (L N : Nat) : Env := { P := Try.prog, ty := tyOf, Φ := (Φ80 L N), inl := inlT, live := lives, liveX := livesX, L := L, dp := none, prom := promT, heal := healT, ren := renT }
noncomputable def f63.c0 : Code := loopAt 0 (codeOf Try.f63)
theorem f63.s0_eq {R : Type} (L N : Nat) (κ : Ex → T → H → Option R) (rec : T → H → Option R) (s1 : LB) (s2 : LB) (s3 : Bool) (s4 : Int) :
    evRd (E63 L N) (evCallI (E63 L N) 0 1000) 1000 63 33 0 f63.c0 κ rec (f63.T0 s1 s2 s3 s4) (f63.H0 s1 s2 s3 s4)
    = f63.s0 L N (fun z5 => κ (.exit 0) (f63.T0_e0 z5) (f63.H0_e0 z5)) (fun z11 z12 => κ .ret (f63.T0_r z11 z12) (f63.H0_r z11 z12)) (fun s1 s2 s3 s4 => rec (f63.T0 s1 s2 s3 s4) (f63.H0 s1 s2 s3 s4)) s1 s2 s3 s4 := by kernel_rfl
theorem f63.l0_eq {R : Type} (L N : Nat) (κ : Ex → T → H → Option R) : ∀ (n : Nat) (s1 : LB) (s2 : LB) (s3 : Bool) (s4 : Int),
    evLp (E63 L N) (evCallI (E63 L N) 0 1000) 1000 63 33 0 f63.c0 κ n (f63.T0 s1 s2 s3 s4) (f63.H0 s1 s2 s3 s4)
    = f63.l0 L N (fun z5 => κ (.exit 0) (f63.T0_e0 z5) (f63.H0_e0 z5)) (fun z11 z12 => κ .ret (f63.T0_r z11 z12) (f63.H0_r z11 z12)) n s1 s2 s3 s4 := by
  intro n
  induction n with
  | zero => intros; rfl
  | succ n ih =>
    intro s1 s2 s3 s4
    rw [evLp_succ, f63.s0_eq]
    simp only [ih]
    rfl
theorem f63.p0_e0_eq {R : Type} (L N : Nat) (κ : AV → Option R) (z5 : Bool) :
    (contAt (E63 L N) (evCallI (E63 L N) 0 1000) 1000 63 33 0 (codeOf Try.f63) (finK (E63 L N) 1000 Try.f63 (finC (.one .bool) κ))) (.exit 0) (f63.T0_e0 z5) (f63.H0_e0 z5)
    = f63.p0_e0 L N (fun a0 => κ (.tv .bool a0)) z5 := by kernel_rfl
theorem f63.p0_r_eq {R : Type} (L N : Nat) (κ : AV → Option R) (z11 : Bool) (z12 : Bool) :
    (contAt (E63 L N) (evCallI (E63 L N) 0 1000) 1000 63 33 0 (codeOf Try.f63) (finK (E63 L N) 1000 Try.f63 (finC (.one .bool) κ))) .ret (f63.T0_r z11 z12) (f63.H0_r z11 z12)
    = f63.p0_r L N (fun a0 => κ (.tv .bool a0)) z11 z12 := by kernel_rfl
theorem f63.b_eq {R : Type} (L N : Nat) (κ : AV → Option R) (x0 : Graph) (x1 : Int) (x2 : LB) :
    evBody (E63 L N) (evCallI (E63 L N) 0 1000) 1000 63 Try.f63 [(.tv (.st 2) x0), (.tv i64 x1), (.tv (.sl .bool) x2)] [] [] (finC (.one .bool) κ)
    = f63.b L N (fun a0 => κ (.tv .bool a0)) x0 x1 x2 := by
  refine Eq.trans (b := f63.b' L N (fun a0 => κ (.tv .bool a0)) (fun s1 s2 s3 s4 => evLp (E63 L N) (evCallI (E63 L N) 0 1000) 1000 63 33 0 f63.c0 (contAt (E63 L N) (evCallI (E63 L N) 0 1000) 1000 63 33 0 (codeOf Try.f63) (finK (E63 L N) 1000 Try.f63 (finC (.one .bool) κ))) L (f63.T0 s1 s2 s3 s4) (f63.H0 s1 s2 s3 s4)) x0 x1 x2) (by kernel_rfl) ?_
  unfold f63.b
  simp only [f63.l0_eq, f63.p0_e0_eq, f63.p0_r_eq]
theorem f63.ok (L N : Nat) (hΦ : TellsOk Try.prog ((Φ80 L N))) : EntOk Try.prog 63 (f63.ent L N) := by
  intro args vw site h
  unfold f63.ent
  split
  · rename_i d ha
    intro y hy hs
    refine call_ro (dep := 1000) (E := (E63 L N)) (rs := (.one .bool)) (κ := unR (.one .bool)) (sound_of hΦ) okP (callI_sound (sound_of hΦ) okP 0 1000) (f := Try.f63) rfl hs ha ?_ (fun _ h => unR_some h) rfl site
    exact (f63.b_eq L N (unR (.one .bool)) d.1 d.2.1 d.2.2.1).trans (Eq.trans (b := f63.b L N some d.1 d.2.1 d.2.2.1) (by kernel_rfl) hy)
  · intro y hy
    cases hy
def Φ63 (L N : Nat) : Tells := (addT (Φ80 L N) 63 (f63.ent L N))
theorem Φ63_ok (L N : Nat) : TellsOk Try.prog (Φ63 L N) := addT_ok (Φ80_ok L N) (f63.ok L N (Φ80_ok L N))
def f37.b' {R : Type} (L N : Nat) (k : Bool → Option R) (x0 : Graph) (x1 : Int) (x2 : LB) : Option R :=
  (f62 L N (Graph.mk x0.moves)).bind fun y0 =>
  bif y0 then
    (f49 L N x1 (0 : Int) (wi ((x0.moves.length : Int) - (1 : Int)))).bind fun y1 =>
    bif y1 then
      (f15 L N x2).bind fun y2 =>
      bif y2 then
        (f63 L N (Graph.mk x0.moves) x1 x2).bind fun y3 =>
        k y3
      else k false
    else k false
  else k false
def f37.b {R : Type} (L N : Nat) (k : Bool → Option R) (x0 : Graph) (x1 : Int) (x2 : LB) : Option R :=
  f37.b' L N k x0 x1 x2
def f37 (L N : Nat) (x0 : Graph) (x1 : Int) (x2 : LB) : Option (Bool) := f37.b L N some x0 x1 x2
def f37.ent (L N : Nat) (args : List AV) (vw : View) (site : Nat) : Ans := match roD [(.st 2), i64, (.sl .bool)] vw args with
  | some d => ⟨Bool, f37 L N d.1 d.2.1 d.2.2.1, fun y => ((.tv .bool y), [], [])⟩
  | none => Ans.no
noncomputable def E37 (L N : Nat) : Env := { P := Try.prog, ty := tyOf, Φ := (Φ63 L N), inl := inlT, live := lives, liveX := livesX, L := L, dp := none, prom := promT, heal := healT, ren := renT }
theorem f37.b_eq {R : Type} (L N : Nat) (κ : AV → Option R) (x0 : Graph) (x1 : Int) (x2 : LB) :
    evBody (E37 L N) (evCallI (E37 L N) 0 1000) 1000 37 Try.f37 [(.tv (.st 2) x0), (.tv i64 x1), (.tv (.sl .bool) x2)] [] [] (finC (.one .bool) κ)
    = f37.b L N (fun a0 => κ (.tv .bool a0)) x0 x1 x2 := by kernel_rfl
theorem f37.ok (L N : Nat) (hΦ : TellsOk Try.prog ((Φ63 L N))) : EntOk Try.prog 37 (f37.ent L N) := by
  intro args vw site h
  unfold f37.ent
  split
  · rename_i d ha
    intro y hy hs
    refine call_ro (dep := 1000) (E := (E37 L N)) (rs := (.one .bool)) (κ := unR (.one .bool)) (sound_of hΦ) okP (callI_sound (sound_of hΦ) okP 0 1000) (f := Try.f37) rfl hs ha ?_ (fun _ h => unR_some h) rfl site
    exact (f37.b_eq L N (unR (.one .bool)) d.1 d.2.1 d.2.2.1).trans (Eq.trans (b := f37.b L N some d.1 d.2.1 d.2.2.1) (by kernel_rfl) hy)
  · intro y hy
    cases hy
def Φ37 (L N : Nat) : Tells := (addT (Φ63 L N) 37 (f37.ent L N))
theorem Φ37_ok (L N : Nat) : TellsOk Try.prog (Φ37 L N) := addT_ok (Φ63_ok L N) (f37.ok L N (Φ63_ok L N))
def f17.b' {R : Type} (L N : Nat) (k : Bool → Option R) (x0 : LB) : Option R :=
  k ((x0.length : Int) == (8 : Int))
def f17.b {R : Type} (L N : Nat) (k : Bool → Option R) (x0 : LB) : Option R :=
  f17.b' L N k x0
def f17 (L N : Nat) (x0 : LB) : Option (Bool) := f17.b L N some x0
def f17.ent (L N : Nat) (args : List AV) (vw : View) (site : Nat) : Ans := match roD [(.sl .bool)] vw args with
  | some d => ⟨Bool, f17 L N d.1, fun y => ((.tv .bool y), [], [])⟩
  | none => Ans.no
noncomputable def E17 (L N : Nat) : Env := { P := Try.prog, ty := tyOf, Φ := (Φ37 L N), inl := inlT, live := lives, liveX := livesX, L := L, dp := none, prom := promT, heal := healT, ren := renT }
theorem f17.b_eq {R : Type} (L N : Nat) (κ : AV → Option R) (x0 : LB) :
    evBody (E17 L N) (evCallI (E17 L N) 0 1000) 1000 17 Try.f17 [(.tv (.sl .bool) x0)] [] [] (finC (.one .bool) κ)
    = f17.b L N (fun a0 => κ (.tv .bool a0)) x0 := by kernel_rfl
theorem f17.ok (L N : Nat) (hΦ : TellsOk Try.prog ((Φ37 L N))) : EntOk Try.prog 17 (f17.ent L N) := by
  intro args vw site h
  unfold f17.ent
  split
  · rename_i d ha
    intro y hy hs
    refine call_ro (dep := 1000) (E := (E17 L N)) (rs := (.one .bool)) (κ := unR (.one .bool)) (sound_of hΦ) okP (callI_sound (sound_of hΦ) okP 0 1000) (f := Try.f17) rfl hs ha ?_ (fun _ h => unR_some h) rfl site
    exact (f17.b_eq L N (unR (.one .bool)) d.1).trans (Eq.trans (b := f17.b L N some d.1) (by kernel_rfl) hy)
  · intro y hy
    cases hy
def Φ17 (L N : Nat) : Tells := (addT (Φ37 L N) 17 (f17.ent L N))
theorem Φ17_ok (L N : Nat) : TellsOk Try.prog (Φ17 L N) := addT_ok (Φ37_ok L N) (f17.ok L N (Φ37_ok L N))
def f74.b' {R : Type} (L N : Nat) (k : Bool → Option R) (x0 : Int) : Option R :=
  bif (decide (x0 ≥ (-4 : Int))) then
    k (decide (x0 ≤ (4 : Int)))
  else k false
def f74.b {R : Type} (L N : Nat) (k : Bool → Option R) (x0 : Int) : Option R :=
  f74.b' L N k x0
def f74 (L N : Nat) (x0 : Int) : Option (Bool) := f74.b L N some x0
def f74.ent (L N : Nat) (args : List AV) (vw : View) (site : Nat) : Ans := match roD [i64] vw args with
  | some d => ⟨Bool, f74 L N d.1, fun y => ((.tv .bool y), [], [])⟩
  | none => Ans.no
noncomputable def E74 (L N : Nat) : Env := { P := Try.prog, ty := tyOf, Φ := (Φ17 L N), inl := inlT, live := lives, liveX := livesX, L := L, dp := none, prom := promT, heal := healT, ren := renT }
theorem f74.b_eq {R : Type} (L N : Nat) (κ : AV → Option R) (x0 : Int) :
    evBody (E74 L N) (evCallI (E74 L N) 0 1000) 1000 74 Try.f74 [(.tv i64 x0)] [] [] (finC (.one .bool) κ)
    = f74.b L N (fun a0 => κ (.tv .bool a0)) x0 := by kernel_rfl
theorem f74.ok (L N : Nat) (hΦ : TellsOk Try.prog ((Φ17 L N))) : EntOk Try.prog 74 (f74.ent L N) := by
  intro args vw site h
  unfold f74.ent
  split
  · rename_i d ha
    intro y hy hs
    refine call_ro (dep := 1000) (E := (E74 L N)) (rs := (.one .bool)) (κ := unR (.one .bool)) (sound_of hΦ) okP (callI_sound (sound_of hΦ) okP 0 1000) (f := Try.f74) rfl hs ha ?_ (fun _ h => unR_some h) rfl site
    exact (f74.b_eq L N (unR (.one .bool)) d.1).trans (Eq.trans (b := f74.b L N some d.1) (by kernel_rfl) hy)
  · intro y hy
    cases hy
def Φ74 (L N : Nat) : Tells := (addT (Φ17 L N) 74 (f74.ent L N))
theorem Φ74_ok (L N : Nat) : TellsOk Try.prog (Φ74 L N) := addT_ok (Φ17_ok L N) (f74.ok L N (Φ17_ok L N))
def f107.b' {R : Type} (L N : Nat) (k : Bool → Option R) (x0 : Int) : Option R :=
  k (x0 != x0)
def f107.b {R : Type} (L N : Nat) (k : Bool → Option R) (x0 : Int) : Option R :=
  f107.b' L N k x0
def f107 (L N : Nat) (x0 : Int) : Option (Bool) := f107.b L N some x0
def f107.ent (L N : Nat) (args : List AV) (vw : View) (site : Nat) : Ans := match roD [i64] vw args with
  | some d => ⟨Bool, f107 L N d.1, fun y => ((.tv .bool y), [], [])⟩
  | none => Ans.no
noncomputable def E107 (L N : Nat) : Env := { P := Try.prog, ty := tyOf, Φ := (Φ74 L N), inl := inlT, live := lives, liveX := livesX, L := L, dp := none, prom := promT, heal := healT, ren := renT }
theorem f107.b_eq {R : Type} (L N : Nat) (κ : AV → Option R) (x0 : Int) :
    evBody (E107 L N) (evCallI (E107 L N) 0 1000) 1000 107 Try.f107 [(.tv i64 x0)] [] [] (finC (.one .bool) κ)
    = f107.b L N (fun a0 => κ (.tv .bool a0)) x0 := by kernel_rfl
theorem f107.ok (L N : Nat) (hΦ : TellsOk Try.prog ((Φ74 L N))) : EntOk Try.prog 107 (f107.ent L N) := by
  intro args vw site h
  unfold f107.ent
  split
  · rename_i d ha
    intro y hy hs
    refine call_ro (dep := 1000) (E := (E107 L N)) (rs := (.one .bool)) (κ := unR (.one .bool)) (sound_of hΦ) okP (callI_sound (sound_of hΦ) okP 0 1000) (f := Try.f107) rfl hs ha ?_ (fun _ h => unR_some h) rfl site
    exact (f107.b_eq L N (unR (.one .bool)) d.1).trans (Eq.trans (b := f107.b L N some d.1) (by kernel_rfl) hy)
  · intro y hy
    cases hy
def Φ107 (L N : Nat) : Tells := (addT (Φ74 L N) 107 (f107.ent L N))
theorem Φ107_ok (L N : Nat) : TellsOk Try.prog (Φ107 L N) := addT_ok (Φ74_ok L N) (f107.ok L N (Φ74_ok L N))
def f98.b' {R : Type} (L N : Nat) (k : Int → Option R) (x0 : Int) (x1 : Int) : Option R :=
  (f107 L N x0).bind fun y0 =>
  (f107 L N x1).bind fun y1 =>
  bif y0 then
    bif y1 then
      k (0 : Int)
    else k (-1 : Int)
  else bif y1 then
    k (1 : Int)
  else bif (decide (x0 < x1)) then
    k (-1 : Int)
  else bif (decide (x0 > x1)) then
    k (1 : Int)
  else k (0 : Int)
def f98.b {R : Type} (L N : Nat) (k : Int → Option R) (x0 : Int) (x1 : Int) : Option R :=
  f98.b' L N k x0 x1
def f98 (L N : Nat) (x0 : Int) (x1 : Int) : Option (Int) := f98.b L N some x0 x1
def f98.ent (L N : Nat) (args : List AV) (vw : View) (site : Nat) : Ans := match roD [i64, i64] vw args with
  | some d => ⟨Int, f98 L N d.1 d.2.1, fun y => ((.tv i64 y), [], [])⟩
  | none => Ans.no
noncomputable def E98 (L N : Nat) : Env := { P := Try.prog, ty := tyOf, Φ := (Φ107 L N), inl := inlT, live := lives, liveX := livesX, L := L, dp := none, prom := promT, heal := healT, ren := renT }
theorem f98.b_eq {R : Type} (L N : Nat) (κ : AV → Option R) (x0 : Int) (x1 : Int) :
    evBody (E98 L N) (evCallI (E98 L N) 0 1000) 1000 98 Try.f98 [(.tv i64 x0), (.tv i64 x1)] [] [] (finC (.one i64) κ)
    = f98.b L N (fun a0 => κ (.tv i64 a0)) x0 x1 := by kernel_rfl
theorem f98.ok (L N : Nat) (hΦ : TellsOk Try.prog ((Φ107 L N))) : EntOk Try.prog 98 (f98.ent L N) := by
  intro args vw site h
  unfold f98.ent
  split
  · rename_i d ha
    intro y hy hs
    refine call_ro (dep := 1000) (E := (E98 L N)) (rs := (.one i64)) (κ := unR (.one i64)) (sound_of hΦ) okP (callI_sound (sound_of hΦ) okP 0 1000) (f := Try.f98) rfl hs ha ?_ (fun _ h => unR_some h) rfl site
    exact (f98.b_eq L N (unR (.one i64)) d.1 d.2.1).trans (Eq.trans (b := f98.b L N some d.1 d.2.1) (by kernel_rfl) hy)
  · intro y hy
    cases hy
def Φ98 (L N : Nat) : Tells := (addT (Φ107 L N) 98 (f98.ent L N))
theorem Φ98_ok (L N : Nat) : TellsOk Try.prog (Φ98 L N) := addT_ok (Φ107_ok L N) (f98.ok L N (Φ107_ok L N))
def f82.b' {R : Type} (L N : Nat) (k : Int → Option R) (x0 : Move) (x1 : Move) : Option R :=
  (f98 L N x0.act x1.act).bind fun y0 =>
  bif (y0 != (0 : Int)) then
    k y0
  else (f98 L N x0.to x1.to).bind fun y1 =>
  k y1
def f82.b {R : Type} (L N : Nat) (k : Int → Option R) (x0 : Move) (x1 : Move) : Option R :=
  f82.b' L N k x0 x1
def f82 (L N : Nat) (x0 : Move) (x1 : Move) : Option (Int) := f82.b L N some x0 x1
def f82.ent (L N : Nat) (args : List AV) (vw : View) (site : Nat) : Ans := match roD [(.st 0), (.st 0)] vw args with
  | some d => ⟨Int, f82 L N d.1 d.2.1, fun y => ((.tv i64 y), [], [])⟩
  | none => Ans.no
noncomputable def E82 (L N : Nat) : Env := { P := Try.prog, ty := tyOf, Φ := (Φ98 L N), inl := inlT, live := lives, liveX := livesX, L := L, dp := none, prom := promT, heal := healT, ren := renT }
theorem f82.b_eq {R : Type} (L N : Nat) (κ : AV → Option R) (x0 : Move) (x1 : Move) :
    evBody (E82 L N) (evCallI (E82 L N) 0 1000) 1000 82 Try.f82 [(.tv (.st 0) x0), (.tv (.st 0) x1)] [] [] (finC (.one i64) κ)
    = f82.b L N (fun a0 => κ (.tv i64 a0)) x0 x1 := by kernel_rfl
theorem f82.ok (L N : Nat) (hΦ : TellsOk Try.prog ((Φ98 L N))) : EntOk Try.prog 82 (f82.ent L N) := by
  intro args vw site h
  unfold f82.ent
  split
  · rename_i d ha
    intro y hy hs
    refine call_ro (dep := 1000) (E := (E82 L N)) (rs := (.one i64)) (κ := unR (.one i64)) (sound_of hΦ) okP (callI_sound (sound_of hΦ) okP 0 1000) (f := Try.f82) rfl hs ha ?_ (fun _ h => unR_some h) rfl site
    exact (f82.b_eq L N (unR (.one i64)) d.1 d.2.1).trans (Eq.trans (b := f82.b L N some d.1 d.2.1) (by kernel_rfl) hy)
  · intro y hy
    cases hy
def Φ82 (L N : Nat) : Tells := (addT (Φ98 L N) 82 (f82.ent L N))
theorem Φ82_ok (L N : Nat) : TellsOk Try.prog (Φ82 L N) := addT_ok (Φ98_ok L N) (f82.ok L N (Φ98_ok L N))
def f65.s1' {R : Type} (L N : Nat) (k1_e2 : LLM → Int → Int → LLM → Option R) (k1_r : Bool → LLM → Int → Int → LLM → Option R) (rec1 : LM → LLM → Int → Int → LM → Int → Int → LLM → Option R) (s7 : LM) (s8 : LLM) (s9 : Int) (s10 : Int) (s11 : LM) (s12 : Int) (s13 : Int) (s14 : LLM) : Option R :=
  bif (decide (s13 < s12)) then
    bif (decide (0 ≤ s13) && decide (s13 < (s11.length : Int))) then
      (f74 L N ((listAt s11 (Ty.dflt (.st 0)) s13.toNat).act)).bind fun y19 =>
      bif (!y19) then
        k1_r false s8 s9 s10 s14
      else bif (decide ((listAt s11 (Ty.dflt (.st 0)) s13.toNat).to < (0 : Int))) then
        k1_r false s8 s9 s10 s14
      else bif (decide ((listAt s11 (Ty.dflt (.st 0)) s13.toNat).to ≥ (s14.length : Int))) then
        k1_r false s8 s9 s10 s14
      else bif (decide (s13 > (0 : Int))) then
        bif (decide (0 ≤ (wi (s13 - (1 : Int)))) && decide ((wi (s13 - (1 : Int))) < (s7.length : Int))) then
          (f82 L N (listAt s7 (Ty.dflt (.st 0)) (wi (s13 - (1 : Int))).toNat) (Move.mk ((listAt s11 (Ty.dflt (.st 0)) s13.toNat).act) ((listAt s11 (Ty.dflt (.st 0)) s13.toNat).to))).bind fun y20 =>
          bif (decide (y20 ≥ (0 : Int))) then
            k1_r false s8 s9 s10 s14
          else rec1 s7 s8 s9 s10 s11 s12 (wi (s13 + (1 : Int))) s14
        else none
      else rec1 s7 s8 s9 s10 s11 s12 (wi (s13 + (1 : Int))) s14
    else none
  else k1_e2 s8 s9 s10 s14
def f65.s1 {R : Type} (L N : Nat) (k1_e2 : LLM → Int → Int → LLM → Option R) (k1_r : Bool → LLM → Int → Int → LLM → Option R) (rec1 : LM → LLM → Int → Int → LM → Int → Int → LLM → Option R) (s7 : LM) (s8 : LLM) (s9 : Int) (s10 : Int) (s11 : LM) (s12 : Int) (s13 : Int) (s14 : LLM) : Option R :=
  f65.s1' L N k1_e2 k1_r rec1 s7 s8 s9 s10 s11 s12 s13 s14
def f65.l1 {R : Type} (L N : Nat) (k1_e2 : LLM → Int → Int → LLM → Option R) (k1_r : Bool → LLM → Int → Int → LLM → Option R) : Nat → LM → LLM → Int → Int → LM → Int → Int → LLM → Option R
  | 0, _, _, _, _, _, _, _, _ => none
  | n + 1, s7, s8, s9, s10, s11, s12, s13, s14 => f65.s1 L N k1_e2 k1_r (f65.l1 L N k1_e2 k1_r n) s7 s8 s9 s10 s11 s12 s13 s14
def f65.T1 (s7 : LM) (s8 : LLM) (s9 : Int) (s10 : Int) (s11 : LM) (s12 : Int) (s13 : Int) (s14 : LLM) : T := mkT 64 [(1, (.ptr 1001 0)), (4, (.tv (.sl (.st 0)) s7)), (18, (.tv (.sl (.sl (.st 0))) s8)), (19, (.tv i64 s9)), (20, (.tv i64 s10)), (24, (.tv (.sl (.st 0)) s11)), (25, (.tv i64 s12)), (26, (.tv i64 s13))]
def f65.H1 (s7 : LM) (s8 : LLM) (s9 : Int) (s10 : Int) (s11 : LM) (s12 : Int) (s13 : Int) (s14 : LLM) : H := [(1001, (.box [(.tv (.sl (.sl (.st 0))) s14)]))]
def f65.T1_e2 (z15 : LLM) (z16 : Int) (z17 : Int) (z18 : LLM) : T := mkT 64 [(1, (.ptr 1001 0)), (18, (.tv (.sl (.sl (.st 0))) z15)), (19, (.tv i64 z16)), (20, (.tv i64 z17))]
def f65.H1_e2 (z15 : LLM) (z16 : Int) (z17 : Int) (z18 : LLM) : H := [(1001, (.box [(.tv (.sl (.sl (.st 0))) z18)]))]
def f65.T1_r (z30 : Bool) (z31 : LLM) (z32 : Int) (z33 : Int) (z34 : LLM) : T := mkT 64 [(1, (.ptr 1001 0)), (2, (.tv .bool z30)), (18, (.tv (.sl (.sl (.st 0))) z31)), (19, (.tv i64 z32)), (20, (.tv i64 z33))]
def f65.H1_r (z30 : Bool) (z31 : LLM) (z32 : Int) (z33 : Int) (z34 : LLM) : H := [(1001, (.box [(.tv (.sl (.sl (.st 0))) z34)]))]
def f65.p1_e2' {R : Type} (L N : Nat) (k0_e0 : Option R) (k0_r : Bool → Option R) (rec0 : LLM → Int → Int → LLM → Option R) (z15 : LLM) (z16 : Int) (z17 : Int) (z18 : LLM) : Option R :=
  rec0 z15 z16 (wi (z17 + (1 : Int))) z18
def f65.p1_e2 {R : Type} (L N : Nat) (k0_e0 : Option R) (k0_r : Bool → Option R) (rec0 : LLM → Int → Int → LLM → Option R) (z15 : LLM) (z16 : Int) (z17 : Int) (z18 : LLM) : Option R :=
  f65.p1_e2' L N k0_e0 k0_r rec0 z15 z16 z17 z18
def f65.p1_r' {R : Type} (L N : Nat) (k0_e0 : Option R) (k0_r : Bool → Option R) (rec0 : LLM → Int → Int → LLM → Option R) (z30 : Bool) (z31 : LLM) (z32 : Int) (z33 : Int) (z34 : LLM) : Option R :=
  k0_r z30
def f65.p1_r {R : Type} (L N : Nat) (k0_e0 : Option R) (k0_r : Bool → Option R) (rec0 : LLM → Int → Int → LLM → Option R) (z30 : Bool) (z31 : LLM) (z32 : Int) (z33 : Int) (z34 : LLM) : Option R :=
  f65.p1_r' L N k0_e0 k0_r rec0 z30 z31 z32 z33 z34
def f65.s0' {R : Type} (L N : Nat) (k0_e0 : Option R) (k0_r : Bool → Option R) (rec0 : LLM → Int → Int → LLM → Option R) (w1 : LM → LLM → Int → Int → LM → Int → Int → LLM → Option R) (s3 : LLM) (s4 : Int) (s5 : Int) (s6 : LLM) : Option R :=
  bif (decide (s5 < s4)) then
    bif (decide (0 ≤ s5) && decide (s5 < (s3.length : Int))) then
      w1 (listAt s3 [] s5.toNat) s3 s4 s5 (listAt s3 [] s5.toNat) ((listAt s3 [] s5.toNat).length : Int) (0 : Int) s6
    else none
  else k0_e0
def f65.s0 {R : Type} (L N : Nat) (k0_e0 : Option R) (k0_r : Bool → Option R) (rec0 : LLM → Int → Int → LLM → Option R) (s3 : LLM) (s4 : Int) (s5 : Int) (s6 : LLM) : Option R :=
  f65.s0' L N k0_e0 k0_r rec0 (fun s7 s8 s9 s10 s11 s12 s13 s14 => f65.l1 L N (fun z15 z16 z17 z18 => f65.p1_e2 L N k0_e0 k0_r rec0 z15 z16 z17 z18) (fun z30 z31 z32 z33 z34 => f65.p1_r L N k0_e0 k0_r rec0 z30 z31 z32 z33 z34) L s7 s8 s9 s10 s11 s12 s13 s14) s3 s4 s5 s6
def f65.l0 {R : Type} (L N : Nat) (k0_e0 : Option R) (k0_r : Bool → Option R) : Nat → LLM → Int → Int → LLM → Option R
  | 0, _, _, _, _ => none
  | n + 1, s3, s4, s5, s6 => f65.s0 L N k0_e0 k0_r (f65.l0 L N k0_e0 k0_r n) s3 s4 s5 s6
def f65.T0 (s3 : LLM) (s4 : Int) (s5 : Int) (s6 : LLM) : T := mkT 64 [(1, (.ptr 1001 0)), (18, (.tv (.sl (.sl (.st 0))) s3)), (19, (.tv i64 s4)), (20, (.tv i64 s5))]
def f65.H0 (s3 : LLM) (s4 : Int) (s5 : Int) (s6 : LLM) : H := [(1001, (.box [(.tv (.sl (.sl (.st 0))) s6)]))]
def f65.T0_e0 : T := mkT 64 []
def f65.H0_e0 : H := []
def f65.T0_r (z43 : Bool) : T := mkT 64 [(2, (.tv .bool z43))]
def f65.H0_r (z43 : Bool) : H := []
def f65.p0_e0' {R : Type} (L N : Nat) (k : Bool → Option R) : Option R :=
  k true
def f65.p0_e0 {R : Type} (L N : Nat) (k : Bool → Option R) : Option R :=
  f65.p0_e0' L N k
def f65.p0_r' {R : Type} (L N : Nat) (k : Bool → Option R) (z43 : Bool) : Option R :=
  k z43
def f65.p0_r {R : Type} (L N : Nat) (k : Bool → Option R) (z43 : Bool) : Option R :=
  f65.p0_r' L N k z43
def f65.j0' {R : Type} (L N : Nat) (k : Bool → Option R) (w0 : LLM → Int → Int → LLM → Option R) (v2 : LLM) : Option R :=
  w0 v2 (v2.length : Int) (0 : Int) v2
def f65.b' {R : Type} (L N : Nat) (k : Bool → Option R) (w0 : LLM → Int → Int → LLM → Option R) (x0 : Graph) : Option R :=
  bif (decide ((x0.moves.length : Int) < (1 : Int))) then
    k false
  else bif (decide ((x0.moves.length : Int) > (60 : Int))) then
    k false
  else f65.j0' L N k w0 x0.moves
def f65.b {R : Type} (L N : Nat) (k : Bool → Option R) (x0 : Graph) : Option R :=
  f65.b' L N k (fun s3 s4 s5 s6 => f65.l0 L N (f65.p0_e0 L N k) (fun z43 => f65.p0_r L N k z43) L s3 s4 s5 s6) x0
def f65 (L N : Nat) (x0 : Graph) : Option (Bool) := f65.b L N some x0
def f65.ent (L N : Nat) (args : List AV) (vw : View) (site : Nat) : Ans := match roD [(.st 2)] vw args with
  | some d => ⟨Bool, f65 L N d.1, fun y => ((.tv .bool y), [], [])⟩
  | none => Ans.no
noncomputable def E65 (L N : Nat) : Env := { P := Try.prog, ty := tyOf, Φ := (Φ82 L N), inl := inlT, live := lives, liveX := livesX, L := L, dp := none, prom := promT, heal := healT, ren := renT }
noncomputable def f65.c0 : Code := loopAt 0 (codeOf Try.f65)
noncomputable def f65.c1 : Code := loopAt 2 f65.c0
theorem f65.s1_eq {R : Type} (L N : Nat) (κ : Ex → T → H → Option R) (rec : T → H → Option R) (s7 : LM) (s8 : LLM) (s9 : Int) (s10 : Int) (s11 : LM) (s12 : Int) (s13 : Int) (s14 : LLM) :
    evRd (E65 L N) (evCallI (E65 L N) 0 1000) 1000 65 64 2 f65.c1 κ rec (f65.T1 s7 s8 s9 s10 s11 s12 s13 s14) (f65.H1 s7 s8 s9 s10 s11 s12 s13 s14)
    = f65.s1 L N (fun z15 z16 z17 z18 => κ (.exit 2) (f65.T1_e2 z15 z16 z17 z18) (f65.H1_e2 z15 z16 z17 z18)) (fun z30 z31 z32 z33 z34 => κ .ret (f65.T1_r z30 z31 z32 z33 z34) (f65.H1_r z30 z31 z32 z33 z34)) (fun s7 s8 s9 s10 s11 s12 s13 s14 => rec (f65.T1 s7 s8 s9 s10 s11 s12 s13 s14) (f65.H1 s7 s8 s9 s10 s11 s12 s13 s14)) s7 s8 s9 s10 s11 s12 s13 s14 := by kernel_rfl
theorem f65.l1_eq {R : Type} (L N : Nat) (κ : Ex → T → H → Option R) : ∀ (n : Nat) (s7 : LM) (s8 : LLM) (s9 : Int) (s10 : Int) (s11 : LM) (s12 : Int) (s13 : Int) (s14 : LLM),
    evLp (E65 L N) (evCallI (E65 L N) 0 1000) 1000 65 64 2 f65.c1 κ n (f65.T1 s7 s8 s9 s10 s11 s12 s13 s14) (f65.H1 s7 s8 s9 s10 s11 s12 s13 s14)
    = f65.l1 L N (fun z15 z16 z17 z18 => κ (.exit 2) (f65.T1_e2 z15 z16 z17 z18) (f65.H1_e2 z15 z16 z17 z18)) (fun z30 z31 z32 z33 z34 => κ .ret (f65.T1_r z30 z31 z32 z33 z34) (f65.H1_r z30 z31 z32 z33 z34)) n s7 s8 s9 s10 s11 s12 s13 s14 := by
  intro n
  induction n with
  | zero => intros; rfl
  | succ n ih =>
    intro s7 s8 s9 s10 s11 s12 s13 s14
    rw [evLp_succ, f65.s1_eq]
    simp only [ih]
    rfl
theorem f65.p1_e2_eq {R : Type} (L N : Nat) (κ : Ex → T → H → Option R) (rec : T → H → Option R) (z15 : LLM) (z16 : Int) (z17 : Int) (z18 : LLM) :
    (contAt (E65 L N) (evCallI (E65 L N) 0 1000) 1000 65 64 2 f65.c0 (rdK (E65 L N) 1000 65 64 0 κ rec)) (.exit 2) (f65.T1_e2 z15 z16 z17 z18) (f65.H1_e2 z15 z16 z17 z18)
    = f65.p1_e2 L N (κ (.exit 0) f65.T0_e0 f65.H0_e0) (fun z43 => κ .ret (f65.T0_r z43) (f65.H0_r z43)) (fun s3 s4 s5 s6 => rec (f65.T0 s3 s4 s5 s6) (f65.H0 s3 s4 s5 s6)) z15 z16 z17 z18 := by kernel_rfl
theorem f65.p1_r_eq {R : Type} (L N : Nat) (κ : Ex → T → H → Option R) (rec : T → H → Option R) (z30 : Bool) (z31 : LLM) (z32 : Int) (z33 : Int) (z34 : LLM) :
    (contAt (E65 L N) (evCallI (E65 L N) 0 1000) 1000 65 64 2 f65.c0 (rdK (E65 L N) 1000 65 64 0 κ rec)) .ret (f65.T1_r z30 z31 z32 z33 z34) (f65.H1_r z30 z31 z32 z33 z34)
    = f65.p1_r L N (κ (.exit 0) f65.T0_e0 f65.H0_e0) (fun z43 => κ .ret (f65.T0_r z43) (f65.H0_r z43)) (fun s3 s4 s5 s6 => rec (f65.T0 s3 s4 s5 s6) (f65.H0 s3 s4 s5 s6)) z30 z31 z32 z33 z34 := by kernel_rfl
theorem f65.s0_eq {R : Type} (L N : Nat) (κ : Ex → T → H → Option R) (rec : T → H → Option R) (s3 : LLM) (s4 : Int) (s5 : Int) (s6 : LLM) :
    evRd (E65 L N) (evCallI (E65 L N) 0 1000) 1000 65 64 0 f65.c0 κ rec (f65.T0 s3 s4 s5 s6) (f65.H0 s3 s4 s5 s6)
    = f65.s0 L N (κ (.exit 0) f65.T0_e0 f65.H0_e0) (fun z43 => κ .ret (f65.T0_r z43) (f65.H0_r z43)) (fun s3 s4 s5 s6 => rec (f65.T0 s3 s4 s5 s6) (f65.H0 s3 s4 s5 s6)) s3 s4 s5 s6 := by
  refine Eq.trans (b := f65.s0' L N (κ (.exit 0) f65.T0_e0 f65.H0_e0) (fun z43 => κ .ret (f65.T0_r z43) (f65.H0_r z43)) (fun s3 s4 s5 s6 => rec (f65.T0 s3 s4 s5 s6) (f65.H0 s3 s4 s5 s6)) (fun s7 s8 s9 s10 s11 s12 s13 s14 => evLp (E65 L N) (evCallI (E65 L N) 0 1000) 1000 65 64 2 f65.c1 (contAt (E65 L N) (evCallI (E65 L N) 0 1000) 1000 65 64 2 f65.c0 (rdK (E65 L N) 1000 65 64 0 κ rec)) L (f65.T1 s7 s8 s9 s10 s11 s12 s13 s14) (f65.H1 s7 s8 s9 s10 s11 s12 s13 s14)) s3 s4 s5 s6) (by kernel_rfl) ?_
  unfold f65.s0
  simp only [f65.l1_eq, f65.p1_e2_eq, f65.p1_r_eq]
theorem f65.l0_eq {R : Type} (L N : Nat) (κ : Ex → T → H → Option R) : ∀ (n : Nat) (s3 : LLM) (s4 : Int) (s5 : Int) (s6 : LLM),
    evLp (E65 L N) (evCallI (E65 L N) 0 1000) 1000 65 64 0 f65.c0 κ n (f65.T0 s3 s4 s5 s6) (f65.H0 s3 s4 s5 s6)
    = f65.l0 L N (κ (.exit 0) f65.T0_e0 f65.H0_e0) (fun z43 => κ .ret (f65.T0_r z43) (f65.H0_r z43)) n s3 s4 s5 s6 := by
  intro n
  induction n with
  | zero => intros; rfl
  | succ n ih =>
    intro s3 s4 s5 s6
    rw [evLp_succ, f65.s0_eq]
    simp only [ih]
    rfl
theorem f65.p0_e0_eq {R : Type} (L N : Nat) (κ : AV → Option R) :
    (contAt (E65 L N) (evCallI (E65 L N) 0 1000) 1000 65 64 0 (codeOf Try.f65) (finK (E65 L N) 1000 Try.f65 (finC (.one .bool) κ))) (.exit 0) f65.T0_e0 f65.H0_e0
    = f65.p0_e0 L N (fun a0 => κ (.tv .bool a0)) := by kernel_rfl
theorem f65.p0_r_eq {R : Type} (L N : Nat) (κ : AV → Option R) (z43 : Bool) :
    (contAt (E65 L N) (evCallI (E65 L N) 0 1000) 1000 65 64 0 (codeOf Try.f65) (finK (E65 L N) 1000 Try.f65 (finC (.one .bool) κ))) .ret (f65.T0_r z43) (f65.H0_r z43)
    = f65.p0_r L N (fun a0 => κ (.tv .bool a0)) z43 := by kernel_rfl
theorem f65.b_eq {R : Type} (L N : Nat) (κ : AV → Option R) (x0 : Graph) :
    evBody (E65 L N) (evCallI (E65 L N) 0 1000) 1000 65 Try.f65 [(.tv (.st 2) x0)] [] [] (finC (.one .bool) κ)
    = f65.b L N (fun a0 => κ (.tv .bool a0)) x0 := by
  refine Eq.trans (b := f65.b' L N (fun a0 => κ (.tv .bool a0)) (fun s3 s4 s5 s6 => evLp (E65 L N) (evCallI (E65 L N) 0 1000) 1000 65 64 0 f65.c0 (contAt (E65 L N) (evCallI (E65 L N) 0 1000) 1000 65 64 0 (codeOf Try.f65) (finK (E65 L N) 1000 Try.f65 (finC (.one .bool) κ))) L (f65.T0 s3 s4 s5 s6) (f65.H0 s3 s4 s5 s6)) x0) (by kernel_rfl) ?_
  unfold f65.b
  simp only [f65.l0_eq, f65.p0_e0_eq, f65.p0_r_eq]
theorem f65.ok (L N : Nat) (hΦ : TellsOk Try.prog ((Φ82 L N))) : EntOk Try.prog 65 (f65.ent L N) := by
  intro args vw site h
  unfold f65.ent
  split
  · rename_i d ha
    intro y hy hs
    refine call_ro (dep := 1000) (E := (E65 L N)) (rs := (.one .bool)) (κ := unR (.one .bool)) (sound_of hΦ) okP (callI_sound (sound_of hΦ) okP 0 1000) (f := Try.f65) rfl hs ha ?_ (fun _ h => unR_some h) rfl site
    exact (f65.b_eq L N (unR (.one .bool)) d.1).trans (Eq.trans (b := f65.b L N some d.1) (by kernel_rfl) hy)
  · intro y hy
    cases hy
def Φ65 (L N : Nat) : Tells := (addT (Φ82 L N) 65 (f65.ent L N))
theorem Φ65_ok (L N : Nat) : TellsOk Try.prog (Φ65 L N) := addT_ok (Φ82_ok L N) (f65.ok L N (Φ82_ok L N))
def f99.b' {R : Type} (L N : Nat) (k : Bool → Option R) (x0 : Move) : Option R :=
  k (x0.act == (0 : Int))
def f99.b {R : Type} (L N : Nat) (k : Bool → Option R) (x0 : Move) : Option R :=
  f99.b' L N k x0
def f99 (L N : Nat) (x0 : Move) : Option (Bool) := f99.b L N some x0
def f99.ent (L N : Nat) (args : List AV) (vw : View) (site : Nat) : Ans := match roD [(.st 0)] vw args with
  | some d => ⟨Bool, f99 L N d.1, fun y => ((.tv .bool y), [], [])⟩
  | none => Ans.no
noncomputable def E99 (L N : Nat) : Env := { P := Try.prog, ty := tyOf, Φ := (Φ65 L N), inl := inlT, live := lives, liveX := livesX, L := L, dp := none, prom := promT, heal := healT, ren := renT }
theorem f99.b_eq {R : Type} (L N : Nat) (κ : AV → Option R) (x0 : Move) :
    evBody (E99 L N) (evCallI (E99 L N) 0 1000) 1000 99 Try.f99 [(.tv (.st 0) x0)] [] [] (finC (.one .bool) κ)
    = f99.b L N (fun a0 => κ (.tv .bool a0)) x0 := by kernel_rfl
theorem f99.ok (L N : Nat) (hΦ : TellsOk Try.prog ((Φ65 L N))) : EntOk Try.prog 99 (f99.ent L N) := by
  intro args vw site h
  unfold f99.ent
  split
  · rename_i d ha
    intro y hy hs
    refine call_ro (dep := 1000) (E := (E99 L N)) (rs := (.one .bool)) (κ := unR (.one .bool)) (sound_of hΦ) okP (callI_sound (sound_of hΦ) okP 0 1000) (f := Try.f99) rfl hs ha ?_ (fun _ h => unR_some h) rfl site
    exact (f99.b_eq L N (unR (.one .bool)) d.1).trans (Eq.trans (b := f99.b L N some d.1) (by kernel_rfl) hy)
  · intro y hy
    cases hy
def Φ99 (L N : Nat) : Tells := (addT (Φ65 L N) 99 (f99.ent L N))
theorem Φ99_ok (L N : Nat) : TellsOk Try.prog (Φ99 L N) := addT_ok (Φ65_ok L N) (f99.ok L N (Φ65_ok L N))
def f100_1.s0' {R : Type} (L N : Nat) (k0_e0 : Option R) (k0_r : Int → Option R) (rec0 : LM → Int → Int → Option R) (s0 : LM) (s1 : Int) (s2 : Int) : Option R :=
  bif (decide (s2 < s1)) then
    bif (decide (0 ≤ s2) && decide (s2 < (s0.length : Int))) then
      (f99 L N (listAt s0 (Ty.dflt (.st 0)) s2.toNat)).bind fun y3 =>
      bif y3 then
        k0_r s2
      else rec0 s0 s1 (wi (s2 + (1 : Int)))
    else none
  else k0_e0
def f100_1.s0 {R : Type} (L N : Nat) (k0_e0 : Option R) (k0_r : Int → Option R) (rec0 : LM → Int → Int → Option R) (s0 : LM) (s1 : Int) (s2 : Int) : Option R :=
  f100_1.s0' L N k0_e0 k0_r rec0 s0 s1 s2
def f100_1.l0 {R : Type} (L N : Nat) (k0_e0 : Option R) (k0_r : Int → Option R) : Nat → LM → Int → Int → Option R
  | 0, _, _, _ => none
  | n + 1, s0, s1, s2 => f100_1.s0 L N k0_e0 k0_r (f100_1.l0 L N k0_e0 k0_r n) s0 s1 s2
def f100_1.T0 (s0 : LM) (s1 : Int) (s2 : Int) : T := mkT 19 [(0, (.tv (.sl (.st 0)) s0)), (1, (.fn 99 [])), (7, (.tv i64 s1)), (8, (.tv i64 s2))]
def f100_1.H0 (s0 : LM) (s1 : Int) (s2 : Int) : H := []
def f100_1.T0_e0 : T := mkT 19 []
def f100_1.H0_e0 : H := []
def f100_1.T0_r (z4 : Int) : T := mkT 19 [(4, (.tv i64 z4))]
def f100_1.H0_r (z4 : Int) : H := []
def f100_1.p0_e0' {R : Type} (L N : Nat) (k : Int → Option R) : Option R :=
  k (-1 : Int)
def f100_1.p0_e0 {R : Type} (L N : Nat) (k : Int → Option R) : Option R :=
  f100_1.p0_e0' L N k
def f100_1.p0_r' {R : Type} (L N : Nat) (k : Int → Option R) (z4 : Int) : Option R :=
  k z4
def f100_1.p0_r {R : Type} (L N : Nat) (k : Int → Option R) (z4 : Int) : Option R :=
  f100_1.p0_r' L N k z4
def f100_1.b' {R : Type} (L N : Nat) (k : Int → Option R) (w0 : LM → Int → Int → Option R) (x0 : LM) : Option R :=
  w0 x0 (x0.length : Int) (0 : Int)
def f100_1.b {R : Type} (L N : Nat) (k : Int → Option R) (x0 : LM) : Option R :=
  f100_1.b' L N k (fun s0 s1 s2 => f100_1.l0 L N (f100_1.p0_e0 L N k) (fun z4 => f100_1.p0_r L N k z4) L s0 s1 s2) x0
def f100_1 (L N : Nat) (x0 : LM) : Option (Int) := f100_1.b L N some x0
def f100_1.ent (L N : Nat) (args : List AV) (vw : View) (site : Nat) : Option Ans := match shD [(.dat (.sl (.st 0))), (.fn 99 [])] vw args with
  | some d => some ⟨Int, f100_1 L N d.1, fun y => ((.tv i64 y), [], [])⟩
  | none => none
noncomputable def E100_1 (L N : Nat) : Env := { P := Try.prog, ty := tyOf, Φ := (Φ99 L N), inl := inlT, live := lives, liveX := livesX, L := L, dp := none, prom := promT, heal := healT, ren := renT }
noncomputable def f100_1.c0 : Code := loopAt 0 (codeOf Try.f100)
theorem f100_1.s0_eq {R : Type} (L N : Nat) (κ : Ex → T → H → Option R) (rec : T → H → Option R) (s0 : LM) (s1 : Int) (s2 : Int) :
    evRd (E100_1 L N) (evCallI (E100_1 L N) 0 1000) 1000 100 19 0 f100_1.c0 κ rec (f100_1.T0 s0 s1 s2) (f100_1.H0 s0 s1 s2)
    = f100_1.s0 L N (κ (.exit 0) f100_1.T0_e0 f100_1.H0_e0) (fun z4 => κ .ret (f100_1.T0_r z4) (f100_1.H0_r z4)) (fun s0 s1 s2 => rec (f100_1.T0 s0 s1 s2) (f100_1.H0 s0 s1 s2)) s0 s1 s2 := by kernel_rfl
theorem f100_1.l0_eq {R : Type} (L N : Nat) (κ : Ex → T → H → Option R) : ∀ (n : Nat) (s0 : LM) (s1 : Int) (s2 : Int),
    evLp (E100_1 L N) (evCallI (E100_1 L N) 0 1000) 1000 100 19 0 f100_1.c0 κ n (f100_1.T0 s0 s1 s2) (f100_1.H0 s0 s1 s2)
    = f100_1.l0 L N (κ (.exit 0) f100_1.T0_e0 f100_1.H0_e0) (fun z4 => κ .ret (f100_1.T0_r z4) (f100_1.H0_r z4)) n s0 s1 s2 := by
  intro n
  induction n with
  | zero => intros; rfl
  | succ n ih =>
    intro s0 s1 s2
    rw [evLp_succ, f100_1.s0_eq]
    simp only [ih]
    rfl
theorem f100_1.p0_e0_eq {R : Type} (L N : Nat) (κ : AV → Option R) :
    (contAt (E100_1 L N) (evCallI (E100_1 L N) 0 1000) 1000 100 19 0 (codeOf Try.f100) (finK (E100_1 L N) 1000 Try.f100 (finC (.one i64) κ))) (.exit 0) f100_1.T0_e0 f100_1.H0_e0
    = f100_1.p0_e0 L N (fun a0 => κ (.tv i64 a0)) := by kernel_rfl
theorem f100_1.p0_r_eq {R : Type} (L N : Nat) (κ : AV → Option R) (z4 : Int) :
    (contAt (E100_1 L N) (evCallI (E100_1 L N) 0 1000) 1000 100 19 0 (codeOf Try.f100) (finK (E100_1 L N) 1000 Try.f100 (finC (.one i64) κ))) .ret (f100_1.T0_r z4) (f100_1.H0_r z4)
    = f100_1.p0_r L N (fun a0 => κ (.tv i64 a0)) z4 := by kernel_rfl
theorem f100_1.b_eq {R : Type} (L N : Nat) (κ : AV → Option R) (x0 : LM) :
    evBody (E100_1 L N) (evCallI (E100_1 L N) 0 1000) 1000 100 Try.f100 [(.tv (.sl (.st 0)) x0), (.fn 99 [])] [] [] (finC (.one i64) κ)
    = f100_1.b L N (fun a0 => κ (.tv i64 a0)) x0 := by
  refine Eq.trans (b := f100_1.b' L N (fun a0 => κ (.tv i64 a0)) (fun s0 s1 s2 => evLp (E100_1 L N) (evCallI (E100_1 L N) 0 1000) 1000 100 19 0 f100_1.c0 (contAt (E100_1 L N) (evCallI (E100_1 L N) 0 1000) 1000 100 19 0 (codeOf Try.f100) (finK (E100_1 L N) 1000 Try.f100 (finC (.one i64) κ))) L (f100_1.T0 s0 s1 s2) (f100_1.H0 s0 s1 s2)) x0) (by kernel_rfl) ?_
  unfold f100_1.b
  simp only [f100_1.l0_eq, f100_1.p0_e0_eq, f100_1.p0_r_eq]
theorem f100_1.ok (L N : Nat) (hΦ : TellsOk Try.prog ((Φ99 L N))) : EntOkO Try.prog 100 (f100_1.ent L N) := by
  intro args vw site h a ha
  unfold f100_1.ent at ha
  split at ha
  · rename_i d hd
    obtain rfl := Option.some.inj ha
    intro y hy hs
    refine call_rof (dep := 1000) (E := (E100_1 L N)) (rs := (.one i64)) (κ := unR (.one i64)) (sound_of hΦ) okP (callI_sound (sound_of hΦ) okP 0 1000) (f := Try.f100) rfl hs hd ?_ (fun _ h => unR_some h) rfl site
    exact (f100_1.b_eq L N (unR (.one i64)) d.1).trans (Eq.trans (b := f100_1.b L N some d.1) (by kernel_rfl) hy)
  · cases ha
def Φ100_1 (L N : Nat) : Tells := (addO (Φ99 L N) 100 (f100_1.ent L N))
theorem Φ100_1_ok (L N : Nat) : TellsOk Try.prog (Φ100_1 L N) := addO_ok (Φ99_ok L N) (f100_1.ok L N (Φ99_ok L N))
def f84_2.b' {R : Type} (L N : Nat) (k : Bool → Option R) (x0 : LM) : Option R :=
  (f100_1 L N x0).bind fun y0 =>
  k (decide (y0 ≥ (0 : Int)))
def f84_2.b {R : Type} (L N : Nat) (k : Bool → Option R) (x0 : LM) : Option R :=
  f84_2.b' L N k x0
def f84_2 (L N : Nat) (x0 : LM) : Option (Bool) := f84_2.b L N some x0
def f84_2.ent (L N : Nat) (args : List AV) (vw : View) (site : Nat) : Option Ans := match shD [(.dat (.sl (.st 0))), (.fn 99 [])] vw args with
  | some d => some ⟨Bool, f84_2 L N d.1, fun y => ((.tv .bool y), [], [])⟩
  | none => none
noncomputable def E84_2 (L N : Nat) : Env := { P := Try.prog, ty := tyOf, Φ := (Φ100_1 L N), inl := inlT, live := lives, liveX := livesX, L := L, dp := none, prom := promT, heal := healT, ren := renT }
theorem f84_2.b_eq {R : Type} (L N : Nat) (κ : AV → Option R) (x0 : LM) :
    evBody (E84_2 L N) (evCallI (E84_2 L N) 0 1000) 1000 84 Try.f84 [(.tv (.sl (.st 0)) x0), (.fn 99 [])] [] [] (finC (.one .bool) κ)
    = f84_2.b L N (fun a0 => κ (.tv .bool a0)) x0 := by kernel_rfl
theorem f84_2.ok (L N : Nat) (hΦ : TellsOk Try.prog ((Φ100_1 L N))) : EntOkO Try.prog 84 (f84_2.ent L N) := by
  intro args vw site h a ha
  unfold f84_2.ent at ha
  split at ha
  · rename_i d hd
    obtain rfl := Option.some.inj ha
    intro y hy hs
    refine call_rof (dep := 1000) (E := (E84_2 L N)) (rs := (.one .bool)) (κ := unR (.one .bool)) (sound_of hΦ) okP (callI_sound (sound_of hΦ) okP 0 1000) (f := Try.f84) rfl hs hd ?_ (fun _ h => unR_some h) rfl site
    exact (f84_2.b_eq L N (unR (.one .bool)) d.1).trans (Eq.trans (b := f84_2.b L N some d.1) (by kernel_rfl) hy)
  · cases ha
def Φ84_2 (L N : Nat) : Tells := (addO (Φ100_1 L N) 84 (f84_2.ent L N))
theorem Φ84_2_ok (L N : Nat) : TellsOk Try.prog (Φ84_2 L N) := addO_ok (Φ100_1_ok L N) (f84_2.ok L N (Φ100_1_ok L N))
def f83.b' {R : Type} (L N : Nat) (k : Bool → Option R) (x0 : Graph) (x1 : Int) : Option R :=
  bif (decide (0 ≤ x1) && decide (x1 < (x0.moves.length : Int))) then
    (f84_2 L N (listAt x0.moves [] x1.toNat)).bind fun y0 =>
    k (!y0)
  else none
def f83.b {R : Type} (L N : Nat) (k : Bool → Option R) (x0 : Graph) (x1 : Int) : Option R :=
  f83.b' L N k x0 x1
def f83 (L N : Nat) (x0 : Graph) (x1 : Int) : Option (Bool) := f83.b L N some x0 x1
def f83.ent (L N : Nat) (args : List AV) (vw : View) (site : Nat) : Ans := match roD [(.st 2), i64] vw args with
  | some d => ⟨Bool, f83 L N d.1 d.2.1, fun y => ((.tv .bool y), [], [])⟩
  | none => Ans.no
noncomputable def E83 (L N : Nat) : Env := { P := Try.prog, ty := tyOf, Φ := (Φ84_2 L N), inl := inlT, live := lives, liveX := livesX, L := L, dp := none, prom := promT, heal := healT, ren := renT }
theorem f83.b_eq {R : Type} (L N : Nat) (κ : AV → Option R) (x0 : Graph) (x1 : Int) :
    evBody (E83 L N) (evCallI (E83 L N) 0 1000) 1000 83 Try.f83 [(.tv (.st 2) x0), (.tv i64 x1)] [] [] (finC (.one .bool) κ)
    = f83.b L N (fun a0 => κ (.tv .bool a0)) x0 x1 := by kernel_rfl
theorem f83.ok (L N : Nat) (hΦ : TellsOk Try.prog ((Φ84_2 L N))) : EntOk Try.prog 83 (f83.ent L N) := by
  intro args vw site h
  unfold f83.ent
  split
  · rename_i d ha
    intro y hy hs
    refine call_ro (dep := 1000) (E := (E83 L N)) (rs := (.one .bool)) (κ := unR (.one .bool)) (sound_of hΦ) okP (callI_sound (sound_of hΦ) okP 0 1000) (f := Try.f83) rfl hs ha ?_ (fun _ h => unR_some h) rfl site
    exact (f83.b_eq L N (unR (.one .bool)) d.1 d.2.1).trans (Eq.trans (b := f83.b L N some d.1 d.2.1) (by kernel_rfl) hy)
  · intro y hy
    cases hy
def Φ83 (L N : Nat) : Tells := (addT (Φ84_2 L N) 83 (f83.ent L N))
theorem Φ83_ok (L N : Nat) : TellsOk Try.prog (Φ83 L N) := addT_ok (Φ84_2_ok L N) (f83.ok L N (Φ84_2_ok L N))
def f94.b' {R : Type} (L N : Nat) (k : Int → Option R) (x0 : Int) : Option R :=
  k (wi ((bif decide ((wi (0 - x0)) > x0) then (wi (0 - x0)) else x0) - (1 : Int)))
def f94.b {R : Type} (L N : Nat) (k : Int → Option R) (x0 : Int) : Option R :=
  f94.b' L N k x0
def f94 (L N : Nat) (x0 : Int) : Option (Int) := f94.b L N some x0
def f94.ent (L N : Nat) (args : List AV) (vw : View) (site : Nat) : Ans := match roD [i64] vw args with
  | some d => ⟨Int, f94 L N d.1, fun y => ((.tv i64 y), [], [])⟩
  | none => Ans.no
noncomputable def E94 (L N : Nat) : Env := { P := Try.prog, ty := tyOf, Φ := (Φ83 L N), inl := inlT, live := lives, liveX := livesX, L := L, dp := none, prom := promT, heal := healT, ren := renT }
theorem f94.b_eq {R : Type} (L N : Nat) (κ : AV → Option R) (x0 : Int) :
    evBody (E94 L N) (evCallI (E94 L N) 0 1000) 1000 94 Try.f94 [(.tv i64 x0)] [] [] (finC (.one i64) κ)
    = f94.b L N (fun a0 => κ (.tv i64 a0)) x0 := by kernel_rfl
theorem f94.ok (L N : Nat) (hΦ : TellsOk Try.prog ((Φ83 L N))) : EntOk Try.prog 94 (f94.ent L N) := by
  intro args vw site h
  unfold f94.ent
  split
  · rename_i d ha
    intro y hy hs
    refine call_ro (dep := 1000) (E := (E94 L N)) (rs := (.one i64)) (κ := unR (.one i64)) (sound_of hΦ) okP (callI_sound (sound_of hΦ) okP 0 1000) (f := Try.f94) rfl hs ha ?_ (fun _ h => unR_some h) rfl site
    exact (f94.b_eq L N (unR (.one i64)) d.1).trans (Eq.trans (b := f94.b L N some d.1) (by kernel_rfl) hy)
  · intro y hy
    cases hy
def Φ94 (L N : Nat) : Tells := (addT (Φ83 L N) 94 (f94.ent L N))
theorem Φ94_ok (L N : Nat) : TellsOk Try.prog (Φ94 L N) := addT_ok (Φ83_ok L N) (f94.ok L N (Φ83_ok L N))
def f86.b' {R : Type} (L N : Nat) (k : Bool → Option R) (x0 : LB) (x1 : Int) : Option R :=
  bif (decide (x1 < (0 : Int))) then
    (f94 L N x1).bind fun y0 =>
    bif (decide (0 ≤ y0) && decide (y0 < (x0.length : Int))) then
      k (listAt x0 false y0.toNat)
    else none
  else (f94 L N x1).bind fun y1 =>
  bif (decide (0 ≤ (wi ((4 : Int) + y1))) && decide ((wi ((4 : Int) + y1)) < (x0.length : Int))) then
    k (listAt x0 false (wi ((4 : Int) + y1)).toNat)
  else none
def f86.b {R : Type} (L N : Nat) (k : Bool → Option R) (x0 : LB) (x1 : Int) : Option R :=
  f86.b' L N k x0 x1
def f86 (L N : Nat) (x0 : LB) (x1 : Int) : Option (Bool) := f86.b L N some x0 x1
def f86.ent (L N : Nat) (args : List AV) (vw : View) (site : Nat) : Ans := match roD [(.sl .bool), i64] vw args with
  | some d => ⟨Bool, f86 L N d.1 d.2.1, fun y => ((.tv .bool y), [], [])⟩
  | none => Ans.no
noncomputable def E86 (L N : Nat) : Env := { P := Try.prog, ty := tyOf, Φ := (Φ94 L N), inl := inlT, live := lives, liveX := livesX, L := L, dp := none, prom := promT, heal := healT, ren := renT }
theorem f86.b_eq {R : Type} (L N : Nat) (κ : AV → Option R) (x0 : LB) (x1 : Int) :
    evBody (E86 L N) (evCallI (E86 L N) 0 1000) 1000 86 Try.f86 [(.tv (.sl .bool) x0), (.tv i64 x1)] [] [] (finC (.one .bool) κ)
    = f86.b L N (fun a0 => κ (.tv .bool a0)) x0 x1 := by kernel_rfl
theorem f86.ok (L N : Nat) (hΦ : TellsOk Try.prog ((Φ94 L N))) : EntOk Try.prog 86 (f86.ent L N) := by
  intro args vw site h
  unfold f86.ent
  split
  · rename_i d ha
    intro y hy hs
    refine call_ro (dep := 1000) (E := (E86 L N)) (rs := (.one .bool)) (κ := unR (.one .bool)) (sound_of hΦ) okP (callI_sound (sound_of hΦ) okP 0 1000) (f := Try.f86) rfl hs ha ?_ (fun _ h => unR_some h) rfl site
    exact (f86.b_eq L N (unR (.one .bool)) d.1 d.2.1).trans (Eq.trans (b := f86.b L N some d.1 d.2.1) (by kernel_rfl) hy)
  · intro y hy
    cases hy
def Φ86 (L N : Nat) : Tells := (addT (Φ94 L N) 86 (f86.ent L N))
theorem Φ86_ok (L N : Nat) : TellsOk Try.prog (Φ86 L N) := addT_ok (Φ94_ok L N) (f86.ok L N (Φ94_ok L N))
def f85_1.b' {R : Type} (L N : Nat) (k : Bool → Option R) (x0 : Move) (x1 : LB) : Option R :=
  (f86 L N x1 x0.act).bind fun y0 =>
  k y0
def f85_1.b {R : Type} (L N : Nat) (k : Bool → Option R) (x0 : Move) (x1 : LB) : Option R :=
  f85_1.b' L N k x0 x1
def f85_1 (L N : Nat) (x0 : Move) (x1 : LB) : Option (Bool) := f85_1.b L N some x0 x1
def f85_1.ent (L N : Nat) (args : List AV) (vw : View) (site : Nat) : Option Ans := match shD [(.dat (.st 0)), (.imp (.sl .bool) 0)] vw args with
  | some d => some ⟨Bool, f85_1 L N d.1 d.2.1, fun y => ((.tv .bool y), [], [])⟩
  | none => none
noncomputable def E85_1 (L N : Nat) : Env := { P := Try.prog, ty := tyOf, Φ := (Φ86 L N), inl := inlT, live := lives, liveX := livesX, L := L, dp := none, prom := promT, heal := healT, ren := renT }
theorem f85_1.b_eq {R : Type} (L N : Nat) (κ : AV → Option R) (x0 : Move) (x1 : LB) :
    evBody (E85_1 L N) (evCallI (E85_1 L N) 0 1000) 1000 85 Try.f85 [(.tv (.st 0) x0), (.imp (.sl .bool) x1 0)] [] [] (finC (.one .bool) κ)
    = f85_1.b L N (fun a0 => κ (.tv .bool a0)) x0 x1 := by kernel_rfl
theorem f85_1.ok (L N : Nat) (hΦ : TellsOk Try.prog ((Φ86 L N))) : EntOkO Try.prog 85 (f85_1.ent L N) := by
  intro args vw site h a ha
  unfold f85_1.ent at ha
  split at ha
  · rename_i d hd
    obtain rfl := Option.some.inj ha
    intro y hy hs
    refine call_rof (dep := 1000) (E := (E85_1 L N)) (rs := (.one .bool)) (κ := unR (.one .bool)) (sound_of hΦ) okP (callI_sound (sound_of hΦ) okP 0 1000) (f := Try.f85) rfl hs hd ?_ (fun _ h => unR_some h) rfl site
    exact (f85_1.b_eq L N (unR (.one .bool)) d.1 d.2.1).trans (Eq.trans (b := f85_1.b L N some d.1 d.2.1) (by kernel_rfl) hy)
  · cases ha
def Φ85_1 (L N : Nat) : Tells := (addO (Φ86 L N) 85 (f85_1.ent L N))
theorem Φ85_1_ok (L N : Nat) : TellsOk Try.prog (Φ85_1 L N) := addO_ok (Φ86_ok L N) (f85_1.ok L N (Φ86_ok L N))
def f100_2.s0' {R : Type} (L N : Nat) (k0_e0 : Option R) (k0_r : Int → Option R) (rec0 : LM → LB → Int → Int → Option R) (s0 : LM) (s1 : LB) (s2 : Int) (s3 : Int) : Option R :=
  bif (decide (s3 < s2)) then
    bif (decide (0 ≤ s3) && decide (s3 < (s0.length : Int))) then
      (f85_1 L N (listAt s0 (Ty.dflt (.st 0)) s3.toNat) s1).bind fun y4 =>
      bif y4 then
        k0_r s3
      else rec0 s0 s1 s2 (wi (s3 + (1 : Int)))
    else none
  else k0_e0
def f100_2.s0 {R : Type} (L N : Nat) (k0_e0 : Option R) (k0_r : Int → Option R) (rec0 : LM → LB → Int → Int → Option R) (s0 : LM) (s1 : LB) (s2 : Int) (s3 : Int) : Option R :=
  f100_2.s0' L N k0_e0 k0_r rec0 s0 s1 s2 s3
def f100_2.l0 {R : Type} (L N : Nat) (k0_e0 : Option R) (k0_r : Int → Option R) : Nat → LM → LB → Int → Int → Option R
  | 0, _, _, _, _ => none
  | n + 1, s0, s1, s2, s3 => f100_2.s0 L N k0_e0 k0_r (f100_2.l0 L N k0_e0 k0_r n) s0 s1 s2 s3
def f100_2.T0 (s0 : LM) (s1 : LB) (s2 : Int) (s3 : Int) : T := mkT 19 [(0, (.tv (.sl (.st 0)) s0)), (1, (.fn 85 [(.imp (.sl .bool) s1 0)])), (7, (.tv i64 s2)), (8, (.tv i64 s3))]
def f100_2.H0 (s0 : LM) (s1 : LB) (s2 : Int) (s3 : Int) : H := []
def f100_2.T0_e0 : T := mkT 19 []
def f100_2.H0_e0 : H := []
def f100_2.T0_r (z5 : Int) : T := mkT 19 [(4, (.tv i64 z5))]
def f100_2.H0_r (z5 : Int) : H := []
def f100_2.p0_e0' {R : Type} (L N : Nat) (k : Int → Option R) : Option R :=
  k (-1 : Int)
def f100_2.p0_e0 {R : Type} (L N : Nat) (k : Int → Option R) : Option R :=
  f100_2.p0_e0' L N k
def f100_2.p0_r' {R : Type} (L N : Nat) (k : Int → Option R) (z5 : Int) : Option R :=
  k z5
def f100_2.p0_r {R : Type} (L N : Nat) (k : Int → Option R) (z5 : Int) : Option R :=
  f100_2.p0_r' L N k z5
def f100_2.b' {R : Type} (L N : Nat) (k : Int → Option R) (w0 : LM → LB → Int → Int → Option R) (x0 : LM) (x1 : LB) : Option R :=
  w0 x0 x1 (x0.length : Int) (0 : Int)
def f100_2.b {R : Type} (L N : Nat) (k : Int → Option R) (x0 : LM) (x1 : LB) : Option R :=
  f100_2.b' L N k (fun s0 s1 s2 s3 => f100_2.l0 L N (f100_2.p0_e0 L N k) (fun z5 => f100_2.p0_r L N k z5) L s0 s1 s2 s3) x0 x1
def f100_2 (L N : Nat) (x0 : LM) (x1 : LB) : Option (Int) := f100_2.b L N some x0 x1
def f100_2.ent (L N : Nat) (args : List AV) (vw : View) (site : Nat) : Option Ans := match shD [(.dat (.sl (.st 0))), (.fn 85 [(.imp (.sl .bool) 0)])] vw args with
  | some d => some ⟨Int, f100_2 L N d.1 d.2.1.1, fun y => ((.tv i64 y), [], [])⟩
  | none => none
noncomputable def E100_2 (L N : Nat) : Env := { P := Try.prog, ty := tyOf, Φ := (Φ85_1 L N), inl := inlT, live := lives, liveX := livesX, L := L, dp := none, prom := promT, heal := healT, ren := renT }
noncomputable def f100_2.c0 : Code := loopAt 0 (codeOf Try.f100)
theorem f100_2.s0_eq {R : Type} (L N : Nat) (κ : Ex → T → H → Option R) (rec : T → H → Option R) (s0 : LM) (s1 : LB) (s2 : Int) (s3 : Int) :
    evRd (E100_2 L N) (evCallI (E100_2 L N) 0 1000) 1000 100 19 0 f100_2.c0 κ rec (f100_2.T0 s0 s1 s2 s3) (f100_2.H0 s0 s1 s2 s3)
    = f100_2.s0 L N (κ (.exit 0) f100_2.T0_e0 f100_2.H0_e0) (fun z5 => κ .ret (f100_2.T0_r z5) (f100_2.H0_r z5)) (fun s0 s1 s2 s3 => rec (f100_2.T0 s0 s1 s2 s3) (f100_2.H0 s0 s1 s2 s3)) s0 s1 s2 s3 := by kernel_rfl
theorem f100_2.l0_eq {R : Type} (L N : Nat) (κ : Ex → T → H → Option R) : ∀ (n : Nat) (s0 : LM) (s1 : LB) (s2 : Int) (s3 : Int),
    evLp (E100_2 L N) (evCallI (E100_2 L N) 0 1000) 1000 100 19 0 f100_2.c0 κ n (f100_2.T0 s0 s1 s2 s3) (f100_2.H0 s0 s1 s2 s3)
    = f100_2.l0 L N (κ (.exit 0) f100_2.T0_e0 f100_2.H0_e0) (fun z5 => κ .ret (f100_2.T0_r z5) (f100_2.H0_r z5)) n s0 s1 s2 s3 := by
  intro n
  induction n with
  | zero => intros; rfl
  | succ n ih =>
    intro s0 s1 s2 s3
    rw [evLp_succ, f100_2.s0_eq]
    simp only [ih]
    rfl
theorem f100_2.p0_e0_eq {R : Type} (L N : Nat) (κ : AV → Option R) :
    (contAt (E100_2 L N) (evCallI (E100_2 L N) 0 1000) 1000 100 19 0 (codeOf Try.f100) (finK (E100_2 L N) 1000 Try.f100 (finC (.one i64) κ))) (.exit 0) f100_2.T0_e0 f100_2.H0_e0
    = f100_2.p0_e0 L N (fun a0 => κ (.tv i64 a0)) := by kernel_rfl
theorem f100_2.p0_r_eq {R : Type} (L N : Nat) (κ : AV → Option R) (z5 : Int) :
    (contAt (E100_2 L N) (evCallI (E100_2 L N) 0 1000) 1000 100 19 0 (codeOf Try.f100) (finK (E100_2 L N) 1000 Try.f100 (finC (.one i64) κ))) .ret (f100_2.T0_r z5) (f100_2.H0_r z5)
    = f100_2.p0_r L N (fun a0 => κ (.tv i64 a0)) z5 := by kernel_rfl
theorem f100_2.b_eq {R : Type} (L N : Nat) (κ : AV → Option R) (x0 : LM) (x1 : LB) :
    evBody (E100_2 L N) (evCallI (E100_2 L N) 0 1000) 1000 100 Try.f100 [(.tv (.sl (.st 0)) x0), (.fn 85 [(.imp (.sl .bool) x1 0)])] [] [] (finC (.one i64) κ)
    = f100_2.b L N (fun a0 => κ (.tv i64 a0)) x0 x1 := by
  refine Eq.trans (b := f100_2.b' L N (fun a0 => κ (.tv i64 a0)) (fun s0 s1 s2 s3 => evLp (E100_2 L N) (evCallI (E100_2 L N) 0 1000) 1000 100 19 0 f100_2.c0 (contAt (E100_2 L N) (evCallI (E100_2 L N) 0 1000) 1000 100 19 0 (codeOf Try.f100) (finK (E100_2 L N) 1000 Try.f100 (finC (.one i64) κ))) L (f100_2.T0 s0 s1 s2 s3) (f100_2.H0 s0 s1 s2 s3)) x0 x1) (by kernel_rfl) ?_
  unfold f100_2.b
  simp only [f100_2.l0_eq, f100_2.p0_e0_eq, f100_2.p0_r_eq]
theorem f100_2.ok (L N : Nat) (hΦ : TellsOk Try.prog ((Φ85_1 L N))) : EntOkO Try.prog 100 (f100_2.ent L N) := by
  intro args vw site h a ha
  unfold f100_2.ent at ha
  split at ha
  · rename_i d hd
    obtain rfl := Option.some.inj ha
    intro y hy hs
    refine call_rof (dep := 1000) (E := (E100_2 L N)) (rs := (.one i64)) (κ := unR (.one i64)) (sound_of hΦ) okP (callI_sound (sound_of hΦ) okP 0 1000) (f := Try.f100) rfl hs hd ?_ (fun _ h => unR_some h) rfl site
    exact (f100_2.b_eq L N (unR (.one i64)) d.1 d.2.1.1).trans (Eq.trans (b := f100_2.b L N some d.1 d.2.1.1) (by kernel_rfl) hy)
  · cases ha
def Φ100_2 (L N : Nat) : Tells := (addO (Φ85_1 L N) 100 (f100_2.ent L N))
theorem Φ100_2_ok (L N : Nat) : TellsOk Try.prog (Φ100_2 L N) := addO_ok (Φ85_1_ok L N) (f100_2.ok L N (Φ85_1_ok L N))
def f84_1.b' {R : Type} (L N : Nat) (k : Bool → Option R) (x0 : LM) (x1 : LB) : Option R :=
  (f100_2 L N x0 x1).bind fun y0 =>
  k (decide (y0 ≥ (0 : Int)))
def f84_1.b {R : Type} (L N : Nat) (k : Bool → Option R) (x0 : LM) (x1 : LB) : Option R :=
  f84_1.b' L N k x0 x1
def f84_1 (L N : Nat) (x0 : LM) (x1 : LB) : Option (Bool) := f84_1.b L N some x0 x1
def f84_1.ent (L N : Nat) (args : List AV) (vw : View) (site : Nat) : Option Ans := match shD [(.dat (.sl (.st 0))), (.fn 85 [(.imp (.sl .bool) 0)])] vw args with
  | some d => some ⟨Bool, f84_1 L N d.1 d.2.1.1, fun y => ((.tv .bool y), [], [])⟩
  | none => none
noncomputable def E84_1 (L N : Nat) : Env := { P := Try.prog, ty := tyOf, Φ := (Φ100_2 L N), inl := inlT, live := lives, liveX := livesX, L := L, dp := none, prom := promT, heal := healT, ren := renT }
theorem f84_1.b_eq {R : Type} (L N : Nat) (κ : AV → Option R) (x0 : LM) (x1 : LB) :
    evBody (E84_1 L N) (evCallI (E84_1 L N) 0 1000) 1000 84 Try.f84 [(.tv (.sl (.st 0)) x0), (.fn 85 [(.imp (.sl .bool) x1 0)])] [] [] (finC (.one .bool) κ)
    = f84_1.b L N (fun a0 => κ (.tv .bool a0)) x0 x1 := by kernel_rfl
theorem f84_1.ok (L N : Nat) (hΦ : TellsOk Try.prog ((Φ100_2 L N))) : EntOkO Try.prog 84 (f84_1.ent L N) := by
  intro args vw site h a ha
  unfold f84_1.ent at ha
  split at ha
  · rename_i d hd
    obtain rfl := Option.some.inj ha
    intro y hy hs
    refine call_rof (dep := 1000) (E := (E84_1 L N)) (rs := (.one .bool)) (κ := unR (.one .bool)) (sound_of hΦ) okP (callI_sound (sound_of hΦ) okP 0 1000) (f := Try.f84) rfl hs hd ?_ (fun _ h => unR_some h) rfl site
    exact (f84_1.b_eq L N (unR (.one .bool)) d.1 d.2.1.1).trans (Eq.trans (b := f84_1.b L N some d.1 d.2.1.1) (by kernel_rfl) hy)
  · cases ha
def Φ84_1 (L N : Nat) : Tells := (addO (Φ100_2 L N) 84 (f84_1.ent L N))
theorem Φ84_1_ok (L N : Nat) : TellsOk Try.prog (Φ84_1 L N) := addO_ok (Φ100_2_ok L N) (f84_1.ok L N (Φ100_2_ok L N))
def f66.b' {R : Type} (L N : Nat) (k : Bool → Option R) (x0 : Graph) (x1 : Int) (x2 : LB) : Option R :=
  (f83 L N (Graph.mk x0.moves) x1).bind fun y0 =>
  bif y0 then
    bif (decide (0 ≤ x1) && decide (x1 < (x0.moves.length : Int))) then
      (f84_1 L N (listAt x0.moves [] x1.toNat) x2).bind fun y1 =>
      k (!y1)
    else none
  else k false
def f66.b {R : Type} (L N : Nat) (k : Bool → Option R) (x0 : Graph) (x1 : Int) (x2 : LB) : Option R :=
  f66.b' L N k x0 x1 x2
def f66 (L N : Nat) (x0 : Graph) (x1 : Int) (x2 : LB) : Option (Bool) := f66.b L N some x0 x1 x2
def f66.ent (L N : Nat) (args : List AV) (vw : View) (site : Nat) : Ans := match roD [(.st 2), i64, (.sl .bool)] vw args with
  | some d => ⟨Bool, f66 L N d.1 d.2.1 d.2.2.1, fun y => ((.tv .bool y), [], [])⟩
  | none => Ans.no
noncomputable def E66 (L N : Nat) : Env := { P := Try.prog, ty := tyOf, Φ := (Φ84_1 L N), inl := inlT, live := lives, liveX := livesX, L := L, dp := none, prom := promT, heal := healT, ren := renT }
theorem f66.b_eq {R : Type} (L N : Nat) (κ : AV → Option R) (x0 : Graph) (x1 : Int) (x2 : LB) :
    evBody (E66 L N) (evCallI (E66 L N) 0 1000) 1000 66 Try.f66 [(.tv (.st 2) x0), (.tv i64 x1), (.tv (.sl .bool) x2)] [] [] (finC (.one .bool) κ)
    = f66.b L N (fun a0 => κ (.tv .bool a0)) x0 x1 x2 := by kernel_rfl
theorem f66.ok (L N : Nat) (hΦ : TellsOk Try.prog ((Φ84_1 L N))) : EntOk Try.prog 66 (f66.ent L N) := by
  intro args vw site h
  unfold f66.ent
  split
  · rename_i d ha
    intro y hy hs
    refine call_ro (dep := 1000) (E := (E66 L N)) (rs := (.one .bool)) (κ := unR (.one .bool)) (sound_of hΦ) okP (callI_sound (sound_of hΦ) okP 0 1000) (f := Try.f66) rfl hs ha ?_ (fun _ h => unR_some h) rfl site
    exact (f66.b_eq L N (unR (.one .bool)) d.1 d.2.1 d.2.2.1).trans (Eq.trans (b := f66.b L N some d.1 d.2.1 d.2.2.1) (by kernel_rfl) hy)
  · intro y hy
    cases hy
def Φ66 (L N : Nat) : Tells := (addT (Φ84_1 L N) 66 (f66.ent L N))
theorem Φ66_ok (L N : Nat) : TellsOk Try.prog (Φ66 L N) := addT_ok (Φ84_1_ok L N) (f66.ok L N (Φ84_1_ok L N))
def f39.b' {R : Type} (L N : Nat) (k : Bool → Option R) (x0 : Graph) (x1 : Int) (x2 : LB) : Option R :=
  (f65 L N (Graph.mk x0.moves)).bind fun y0 =>
  bif y0 then
    bif (decide (x1 ≥ (0 : Int))) then
      bif (decide (x1 < (x0.moves.length : Int))) then
        (f17 L N x2).bind fun y1 =>
        bif y1 then
          (f66 L N (Graph.mk x0.moves) x1 x2).bind fun y2 =>
          k y2
        else k false
      else k false
    else k false
  else k false
def f39.b {R : Type} (L N : Nat) (k : Bool → Option R) (x0 : Graph) (x1 : Int) (x2 : LB) : Option R :=
  f39.b' L N k x0 x1 x2
def f39 (L N : Nat) (x0 : Graph) (x1 : Int) (x2 : LB) : Option (Bool) := f39.b L N some x0 x1 x2
def f39.ent (L N : Nat) (args : List AV) (vw : View) (site : Nat) : Ans := match roD [(.st 2), i64, (.sl .bool)] vw args with
  | some d => ⟨Bool, f39 L N d.1 d.2.1 d.2.2.1, fun y => ((.tv .bool y), [], [])⟩
  | none => Ans.no
noncomputable def E39 (L N : Nat) : Env := { P := Try.prog, ty := tyOf, Φ := (Φ66 L N), inl := inlT, live := lives, liveX := livesX, L := L, dp := none, prom := promT, heal := healT, ren := renT }
theorem f39.b_eq {R : Type} (L N : Nat) (κ : AV → Option R) (x0 : Graph) (x1 : Int) (x2 : LB) :
    evBody (E39 L N) (evCallI (E39 L N) 0 1000) 1000 39 Try.f39 [(.tv (.st 2) x0), (.tv i64 x1), (.tv (.sl .bool) x2)] [] [] (finC (.one .bool) κ)
    = f39.b L N (fun a0 => κ (.tv .bool a0)) x0 x1 x2 := by kernel_rfl
theorem f39.ok (L N : Nat) (hΦ : TellsOk Try.prog ((Φ66 L N))) : EntOk Try.prog 39 (f39.ent L N) := by
  intro args vw site h
  unfold f39.ent
  split
  · rename_i d ha
    intro y hy hs
    refine call_ro (dep := 1000) (E := (E39 L N)) (rs := (.one .bool)) (κ := unR (.one .bool)) (sound_of hΦ) okP (callI_sound (sound_of hΦ) okP 0 1000) (f := Try.f39) rfl hs ha ?_ (fun _ h => unR_some h) rfl site
    exact (f39.b_eq L N (unR (.one .bool)) d.1 d.2.1 d.2.2.1).trans (Eq.trans (b := f39.b L N some d.1 d.2.1 d.2.2.1) (by kernel_rfl) hy)
  · intro y hy
    cases hy
def Φ39 (L N : Nat) : Tells := (addT (Φ66 L N) 39 (f39.ent L N))
theorem Φ39_ok (L N : Nat) : TellsOk Try.prog (Φ39 L N) := addT_ok (Φ66_ok L N) (f39.ok L N (Φ66_ok L N))
def f44.b' {R : Type} (L N : Nat) (k : LI → Int → Option R) (x0 : LI) : Option R :=
  bif (decide ((x0.length : Int) > (2000 : Int))) then
    bif (slB (0 : Int) (2000 : Int) x0.length) then
      k (slX x0 (0 : Int) (2000 : Int)) (0 : Int)
    else none
  else k x0 (0 : Int)
def f44.b {R : Type} (L N : Nat) (k : LI → Int → Option R) (x0 : LI) : Option R :=
  f44.b' L N k x0
def f44 (L N : Nat) (x0 : LI) : Option (LI × Int) := f44.b L N (fun a0 a1 => some (a0, a1)) x0
def f44.ent (L N : Nat) (args : List AV) (vw : View) (site : Nat) : Ans := match coeD [(.sl (.int .u8))] vw args with
  | some (d, u) => ⟨LI × Int, f44 L N d.1, fun y => (.ptr site 0, u ++ [(site, some (.box [(.tv (.sl (.int .u8)) y.1), (.tv i64 y.2)]))], [])⟩
  | none => Ans.no
noncomputable def E44 (L N : Nat) : Env := { P := Try.prog, ty := tyOf, Φ := (Φ39 L N), inl := inlT, live := lives, liveX := livesX, L := L, dp := none, prom := promT, heal := healT, ren := renT }
theorem f44.b_eq {R : Type} (L N : Nat) (κ : Dens [(.sl (.int .u8)), i64] → Option R) (x0 : LI) :
    evBody (E44 L N) (evCallI (E44 L N) 0 1000) 1000 44 Try.f44 [(.tv (.sl (.int .u8)) x0)] [] [] (finB [(.sl (.int .u8)), i64] κ)
    = f44.b L N (fun a0 a1 => κ (a0, a1, ())) x0 := by kernel_rfl
theorem f44.ok (L N : Nat) (hΦ : TellsOk Try.prog ((Φ39 L N))) : EntOk Try.prog 44 (f44.ent L N) := by
  intro args vw site h
  unfold f44.ent
  split
  · rename_i d u ha
    intro y hy hs
    refine call_newbox (y := y) (dep := 1000) (d1 := (y.1, y.2, ())) (E := (E44 L N)) (ts := [(.sl (.int .u8))]) (tb := [(.sl (.int .u8)), i64]) (κ := (fun d => some (d.1, d.2.1))) (sound_of hΦ) okP (callI_sound (sound_of hΦ) okP 0 1000) (f := Try.f44) rfl hs ha ?_ (fun _ h => by obtain rfl := Option.some.inj h; rfl) site
    exact (f44.b_eq L N (fun d => some (d.1, d.2.1)) d.1).trans (Eq.trans (b := f44.b L N (fun a0 a1 => some (a0, a1)) d.1) (by kernel_rfl) hy)
  · intro y hy
    cases hy
def Φ44 (L N : Nat) : Tells := (addT (Φ39 L N) 44 (f44.ent L N))
theorem Φ44_ok (L N : Nat) : TellsOk Try.prog (Φ44 L N) := addT_ok (Φ39_ok L N) (f44.ok L N (Φ39_ok L N))
def f56.j0' {R : Type} (L N : Nat) (k : Int → LI → Int → Option R) (v4 : Int) (v5 : LI) (v6 : Int) : Option R :=
  bif (decide ((wi (v6 - (1 : Int))) < (v5.length : Int))) then
    bif (decide (0 ≤ (wi (v6 - (1 : Int)))) && decide ((wi (v6 - (1 : Int))) < (v5.length : Int))) then
      bif (decide (v4 = 0)) then
        none
      else k (Int.tmod (wi ((listAt v5 (0 : Int) (wi (v6 - (1 : Int))).toNat))) v4) v5 v6
    else none
  else bif (decide ((v5.length : Int) = 0)) then
    none
  else bif (decide (0 ≤ (Int.tmod (wi (v6 - (1 : Int))) (v5.length : Int))) && decide ((Int.tmod (wi (v6 - (1 : Int))) (v5.length : Int)) < (v5.length : Int))) then
    bif (decide ((v5.length : Int) = 0)) then
      none
    else bif (decide (0 ≤ (Int.tmod (wi ((wi ((wi (v6 - (1 : Int))) * (7 : Int))) + (3 : Int))) (v5.length : Int))) && decide ((Int.tmod (wi ((wi ((wi (v6 - (1 : Int))) * (7 : Int))) + (3 : Int))) (v5.length : Int)) < (v5.length : Int))) then
      bif (decide ((v5.length : Int) = 0)) then
        none
      else bif (decide ((64 : Int) = 0)) then
        none
      else bif (decide (v4 = 0)) then
        none
      else k (Int.tmod (IntKind.wrap .i64 ((BitVec.ofInt (IntKind.bits .i64) (wi ((wi ((wi ((wi ((wi ((listAt v5 (0 : Int) (Int.tmod (wi (v6 - (1 : Int))) (v5.length : Int)).toNat))) * (131 : Int))) + (wi ((wi ((listAt v5 (0 : Int) (Int.tmod (wi ((wi ((wi (v6 - (1 : Int))) * (7 : Int))) + (3 : Int))) (v5.length : Int)).toNat))) * (1117 : Int))))) + (wi ((wi (v6 - (1 : Int))) * (29 : Int))))) + (wi ((wi (Int.tdiv (wi (v6 - (1 : Int))) (v5.length : Int))) * (53 : Int))))) ^^^ BitVec.ofInt (IntKind.bits .i64) (wi (Int.tdiv (wi ((wi ((wi ((wi ((wi ((listAt v5 (0 : Int) (Int.tmod (wi (v6 - (1 : Int))) (v5.length : Int)).toNat))) * (131 : Int))) + (wi ((wi ((listAt v5 (0 : Int) (Int.tmod (wi ((wi ((wi (v6 - (1 : Int))) * (7 : Int))) + (3 : Int))) (v5.length : Int)).toNat))) * (1117 : Int))))) + (wi ((wi (v6 - (1 : Int))) * (29 : Int))))) + (wi ((wi (Int.tdiv (wi (v6 - (1 : Int))) (v5.length : Int))) * (53 : Int))))) (64 : Int)))).toNat)) v4) v5 v6
    else none
  else none
def f56.b' {R : Type} (L N : Nat) (k : Int → LI → Int → Option R) (c0 : LI) (c1 : Int) (x0 : Int) : Option R :=
  bif (decide (x0 < (1 : Int))) then
    k (0 : Int) c0 (wi (c1 + (1 : Int)))
  else bif ((c0.length : Int) == (0 : Int)) then
    k (0 : Int) c0 (wi (c1 + (1 : Int)))
  else f56.j0' L N k x0 c0 (wi (c1 + (1 : Int)))
def f56.b {R : Type} (L N : Nat) (k : Int → LI → Int → Option R) (c0 : LI) (c1 : Int) (x0 : Int) : Option R :=
  f56.b' L N k c0 c1 x0
def f56 (L N : Nat) (c0 : LI) (c1 : Int) (x0 : Int) : Option (Int × LI × Int) := f56.b L N (fun a0 a1 a2 => some (a0, a1, a2)) c0 c1 x0
def f56.ent (L N : Nat) (args : List AV) (vw : View) (site : Nat) : Ans := match boxD [(.sl (.int .u8)), i64] [i64] vw args with
  | some (o, d0, d, u) => ⟨Int × LI × Int, f56 L N d0.1 d0.2.1 d.1, fun y => ((.tv i64 y.1), u ++ [(o, some (.box [(.tv (.sl (.int .u8)) y.2.1), (.tv i64 y.2.2)]))], [])⟩
  | none => Ans.no
noncomputable def E56 (L N : Nat) : Env := { P := Try.prog, ty := tyOf, Φ := (Φ44 L N), inl := inlT, live := lives, liveX := livesX, L := L, dp := none, prom := promT, heal := healT, ren := renT }
theorem f56.b_eq {R : Type} (L N : Nat) (κ : AV → Dens [(.sl (.int .u8)), i64] → Option R) (c0 : LI) (c1 : Int) (x0 : Int) :
    evBody (E56 L N) (evCallI (E56 L N) 0 1000) 1000 56 Try.f56 [(.ptr 0 0), (.tv i64 x0)] [.ptr 0 0] [(0, (.box [(.tv (.sl (.int .u8)) c0), (.tv i64 c1)]))] (finM (.one i64) [(.sl (.int .u8)), i64] κ)
    = f56.b L N (fun a0 a1 a2 => κ (.tv i64 a0) (a1, a2, ())) c0 c1 x0 := by kernel_rfl
theorem f56.ok (L N : Nat) (hΦ : TellsOk Try.prog ((Φ44 L N))) : EntOk Try.prog 56 (f56.ent L N) := by
  intro args vw site h
  unfold f56.ent
  split
  · rename_i o d0 d u ha
    intro y hy hs
    obtain ⟨rest, cs, rfl, ho, hd0, hr, hu⟩ := boxD_some ha
    refine call_box (y := y) (dep := 1000) (v' := (.tv i64 y.1)) (d1 := (y.2.1, y.2.2, ())) (E := (E56 L N)) (ts := [(.sl (.int .u8)), i64]) (tr := [i64]) (rs := (.one i64)) (κ := (fun v d => (unR (.one i64) v).bind fun x => some (x, d.1, d.2.1))) (sound_of hΦ) okP (callI_sound (sound_of hΦ) okP 0 1000) (f := Try.f56) rfl hs ho hd0 hr hu ?_ (fun _ _ h => by obtain ⟨x, h1, h2⟩ := unR_bind h; obtain rfl := Option.some.inj h2; exact ⟨h1, rfl⟩) site
    exact (f56.b_eq L N (fun v d => (unR (.one i64) v).bind fun x => some (x, d.1, d.2.1)) d0.1 d0.2.1 d.1).trans (Eq.trans (b := f56.b L N (fun a0 a1 a2 => some (a0, a1, a2)) d0.1 d0.2.1 d.1) (by kernel_rfl) hy)
  · intro y hy
    cases hy
def Φ56 (L N : Nat) : Tells := (addT (Φ44 L N) 56 (f56.ent L N))
theorem Φ56_ok (L N : Nat) : TellsOk Try.prog (Φ56 L N) := addT_ok (Φ44_ok L N) (f56.ok L N (Φ44_ok L N))
def f45.s0' {R : Type} (L N : Nat) (k0_e0 : Int → LI → Int → LB → Option R) (rec0 : Int → Int → LI → Int → LB → Option R) (s0 : Int) (s1 : Int) (s2 : LI) (s3 : Int) (s4 : LB) : Option R :=
  bif (decide (s1 < s0)) then
    (f56 L N s2 s3 (3 : Int)).bind fun y9 =>
    bif (decide (s4.length + ([(y9.1 == (0 : Int))] : LB).length ≤ lim)) then
      rec0 s0 (wi (s1 + (1 : Int))) y9.2.1 y9.2.2 (s4 ++ ([(y9.1 == (0 : Int))] : LB))
    else none
  else k0_e0 s0 s2 s3 s4
def f45.s0 {R : Type} (L N : Nat) (k0_e0 : Int → LI → Int → LB → Option R) (rec0 : Int → Int → LI → Int → LB → Option R) (s0 : Int) (s1 : Int) (s2 : LI) (s3 : Int) (s4 : LB) : Option R :=
  f45.s0' L N k0_e0 rec0 s0 s1 s2 s3 s4
def f45.l0 {R : Type} (L N : Nat) (k0_e0 : Int → LI → Int → LB → Option R) : Nat → Int → Int → LI → Int → LB → Option R
  | 0, _, _, _, _, _ => none
  | n + 1, s0, s1, s2, s3, s4 => f45.s0 L N k0_e0 (f45.l0 L N k0_e0 n) s0 s1 s2 s3 s4
def f45.T0 (s0 : Int) (s1 : Int) (s2 : LI) (s3 : Int) (s4 : LB) : T := mkT 29 [(0, (.ptr 0 0)), (1, (.tv i64 s0)), (5, (.row 1007)), (6, (.tv i64 s1))] ++ [.ptr 0 0]
def f45.H0 (s0 : Int) (s1 : Int) (s2 : LI) (s3 : Int) (s4 : LB) : H := [(0, (.box [(.tv (.sl (.int .u8)) s2), (.tv i64 s3)])), (1007, (.row 4 .bool s4))]
def f45.T0_e0 (z5 : Int) (z6 : LI) (z7 : Int) (z8 : LB) : T := mkT 29 [(0, (.ptr 0 0)), (1, (.tv i64 z5)), (5, (.row 1007))] ++ [.ptr 0 0]
def f45.H0_e0 (z5 : Int) (z6 : LI) (z7 : Int) (z8 : LB) : H := [(0, (.box [(.tv (.sl (.int .u8)) z6), (.tv i64 z7)])), (1007, (.row 4 .bool z8))]
def f45.j0' {R : Type} (L N : Nat) (k : LB → LI → Int → Option R) (v11 : Bool) (v12 : LI) (v13 : Int) (v14 : LB) : Option R :=
  bif v11 then
    bif (slB (1 : Int) (v14.length : Int) v14.length) then
      k (slX v14 (1 : Int) (v14.length : Int)) v12 v13
    else none
  else k v14 v12 v13
def f45.p0_e0' {R : Type} (L N : Nat) (k : LB → LI → Int → Option R) (z5 : Int) (z6 : LI) (z7 : Int) (z8 : LB) : Option R :=
  (f56 L N z6 z7 (20 : Int)).bind fun y10 =>
  bif (y10.1 == (0 : Int)) then
    f45.j0' L N k (decide (z5 > (0 : Int))) y10.2.1 y10.2.2 z8
  else f45.j0' L N k false y10.2.1 y10.2.2 z8
def f45.p0_e0 {R : Type} (L N : Nat) (k : LB → LI → Int → Option R) (z5 : Int) (z6 : LI) (z7 : Int) (z8 : LB) : Option R :=
  f45.p0_e0' L N k z5 z6 z7 z8
def f45.b' {R : Type} (L N : Nat) (k : LB → LI → Int → Option R) (w0 : Int → Int → LI → Int → LB → Option R) (c0 : LI) (c1 : Int) (x0 : Int) : Option R :=
  w0 x0 (0 : Int) c0 c1 ([] : LB)
def f45.b {R : Type} (L N : Nat) (k : LB → LI → Int → Option R) (c0 : LI) (c1 : Int) (x0 : Int) : Option R :=
  f45.b' L N k (fun s0 s1 s2 s3 s4 => f45.l0 L N (fun z5 z6 z7 z8 => f45.p0_e0 L N k z5 z6 z7 z8) L s0 s1 s2 s3 s4) c0 c1 x0
def f45 (L N : Nat) (c0 : LI) (c1 : Int) (x0 : Int) : Option (LB × LI × Int) := f45.b L N (fun a0 a1 a2 => some (a0, a1, a2)) c0 c1 x0
def f45.ent (L N : Nat) (args : List AV) (vw : View) (site : Nat) : Ans := match boxD [(.sl (.int .u8)), i64] [i64] vw args with
  | some (o, d0, d, u) => ⟨LB × LI × Int, f45 L N d0.1 d0.2.1 d.1, fun y => ((.tv (.sl .bool) y.1), u ++ [(o, some (.box [(.tv (.sl (.int .u8)) y.2.1), (.tv i64 y.2.2)]))], [])⟩
  | none => Ans.no
noncomputable def E45 (L N : Nat) : Env := { P := Try.prog, ty := tyOf, Φ := (Φ56 L N), inl := inlT, live := lives, liveX := livesX, L := L, dp := none, prom := promT, heal := healT, ren := renT }
noncomputable def f45.c0 : Code := loopAt 0 (codeOf Try.f45)
theorem f45.s0_eq {R : Type} (L N : Nat) (κ : Ex → T → H → Option R) (rec : T → H → Option R) (s0 : Int) (s1 : Int) (s2 : LI) (s3 : Int) (s4 : LB) :
    evRd (E45 L N) (evCallI (E45 L N) 0 1000) 1000 45 29 0 f45.c0 κ rec (f45.T0 s0 s1 s2 s3 s4) (f45.H0 s0 s1 s2 s3 s4)
    = f45.s0 L N (fun z5 z6 z7 z8 => κ (.exit 0) (f45.T0_e0 z5 z6 z7 z8) (f45.H0_e0 z5 z6 z7 z8)) (fun s0 s1 s2 s3 s4 => rec (f45.T0 s0 s1 s2 s3 s4) (f45.H0 s0 s1 s2 s3 s4)) s0 s1 s2 s3 s4 := by kernel_rfl
theorem f45.l0_eq {R : Type} (L N : Nat) (κ : Ex → T → H → Option R) : ∀ (n : Nat) (s0 : Int) (s1 : Int) (s2 : LI) (s3 : Int) (s4 : LB),
    evLp (E45 L N) (evCallI (E45 L N) 0 1000) 1000 45 29 0 f45.c0 κ n (f45.T0 s0 s1 s2 s3 s4) (f45.H0 s0 s1 s2 s3 s4)
    = f45.l0 L N (fun z5 z6 z7 z8 => κ (.exit 0) (f45.T0_e0 z5 z6 z7 z8) (f45.H0_e0 z5 z6 z7 z8)) n s0 s1 s2 s3 s4 := by
  intro n
  induction n with
  | zero => intros; rfl
  | succ n ih =>
    intro s0 s1 s2 s3 s4
    rw [evLp_succ, f45.s0_eq]
    simp only [ih]
    rfl
theorem f45.p0_e0_eq {R : Type} (L N : Nat) (κ : AV → Dens [(.sl (.int .u8)), i64] → Option R) (z5 : Int) (z6 : LI) (z7 : Int) (z8 : LB) :
    (contAt (E45 L N) (evCallI (E45 L N) 0 1000) 1000 45 29 0 (codeOf Try.f45) (finK (E45 L N) 1000 Try.f45 (finM (.one (.sl .bool)) [(.sl (.int .u8)), i64] κ))) (.exit 0) (f45.T0_e0 z5 z6 z7 z8) (f45.H0_e0 z5 z6 z7 z8)
    = f45.p0_e0 L N (fun a0 a1 a2 => κ (.tv (.sl .bool) a0) (a1, a2, ())) z5 z6 z7 z8 := by kernel_rfl
theorem f45.b_eq {R : Type} (L N : Nat) (κ : AV → Dens [(.sl (.int .u8)), i64] → Option R) (c0 : LI) (c1 : Int) (x0 : Int) :
    evBody (E45 L N) (evCallI (E45 L N) 0 1000) 1000 45 Try.f45 [(.ptr 0 0), (.tv i64 x0)] [.ptr 0 0] [(0, (.box [(.tv (.sl (.int .u8)) c0), (.tv i64 c1)]))] (finM (.one (.sl .bool)) [(.sl (.int .u8)), i64] κ)
    = f45.b L N (fun a0 a1 a2 => κ (.tv (.sl .bool) a0) (a1, a2, ())) c0 c1 x0 := by
  refine Eq.trans (b := f45.b' L N (fun a0 a1 a2 => κ (.tv (.sl .bool) a0) (a1, a2, ())) (fun s0 s1 s2 s3 s4 => evLp (E45 L N) (evCallI (E45 L N) 0 1000) 1000 45 29 0 f45.c0 (contAt (E45 L N) (evCallI (E45 L N) 0 1000) 1000 45 29 0 (codeOf Try.f45) (finK (E45 L N) 1000 Try.f45 (finM (.one (.sl .bool)) [(.sl (.int .u8)), i64] κ))) L (f45.T0 s0 s1 s2 s3 s4) (f45.H0 s0 s1 s2 s3 s4)) c0 c1 x0) (by kernel_rfl) ?_
  unfold f45.b
  simp only [f45.l0_eq, f45.p0_e0_eq]
theorem f45.ok (L N : Nat) (hΦ : TellsOk Try.prog ((Φ56 L N))) : EntOk Try.prog 45 (f45.ent L N) := by
  intro args vw site h
  unfold f45.ent
  split
  · rename_i o d0 d u ha
    intro y hy hs
    obtain ⟨rest, cs, rfl, ho, hd0, hr, hu⟩ := boxD_some ha
    refine call_box (y := y) (dep := 1000) (v' := (.tv (.sl .bool) y.1)) (d1 := (y.2.1, y.2.2, ())) (E := (E45 L N)) (ts := [(.sl (.int .u8)), i64]) (tr := [i64]) (rs := (.one (.sl .bool))) (κ := (fun v d => (unR (.one (.sl .bool)) v).bind fun x => some (x, d.1, d.2.1))) (sound_of hΦ) okP (callI_sound (sound_of hΦ) okP 0 1000) (f := Try.f45) rfl hs ho hd0 hr hu ?_ (fun _ _ h => by obtain ⟨x, h1, h2⟩ := unR_bind h; obtain rfl := Option.some.inj h2; exact ⟨h1, rfl⟩) site
    exact (f45.b_eq L N (fun v d => (unR (.one (.sl .bool)) v).bind fun x => some (x, d.1, d.2.1)) d0.1 d0.2.1 d.1).trans (Eq.trans (b := f45.b L N (fun a0 a1 a2 => some (a0, a1, a2)) d0.1 d0.2.1 d.1) (by kernel_rfl) hy)
  · intro y hy
    cases hy
def Φ45 (L N : Nat) : Tells := (addT (Φ56 L N) 45 (f45.ent L N))
theorem Φ45_ok (L N : Nat) : TellsOk Try.prog (Φ45 L N) := addT_ok (Φ56_ok L N) (f45.ok L N (Φ56_ok L N))
def f92.b' {R : Type} (L N : Nat) (k : Int → LI → Int → Option R) (c0 : LI) (c1 : Int) : Option R :=
  (f56 L N c0 c1 (3 : Int)).bind fun y0 =>
  bif (decide (y0.1 > (0 : Int))) then
    (f56 L N y0.2.1 y0.2.2 (5 : Int)).bind fun y1 =>
    k (wi (y1.1 - (2 : Int))) y1.2.1 y1.2.2
  else (f56 L N y0.2.1 y0.2.2 (9 : Int)).bind fun y2 =>
  k (wi (y2.1 - (4 : Int))) y2.2.1 y2.2.2
def f92.b {R : Type} (L N : Nat) (k : Int → LI → Int → Option R) (c0 : LI) (c1 : Int) : Option R :=
  f92.b' L N k c0 c1
def f92 (L N : Nat) (c0 : LI) (c1 : Int) : Option (Int × LI × Int) := f92.b L N (fun a0 a1 a2 => some (a0, a1, a2)) c0 c1
def f92.ent (L N : Nat) (args : List AV) (vw : View) (site : Nat) : Ans := match boxD [(.sl (.int .u8)), i64] [] vw args with
  | some (o, d0, d, u) => ⟨Int × LI × Int, f92 L N d0.1 d0.2.1, fun y => ((.tv i64 y.1), u ++ [(o, some (.box [(.tv (.sl (.int .u8)) y.2.1), (.tv i64 y.2.2)]))], [])⟩
  | none => Ans.no
noncomputable def E92 (L N : Nat) : Env := { P := Try.prog, ty := tyOf, Φ := (Φ45 L N), inl := inlT, live := lives, liveX := livesX, L := L, dp := none, prom := promT, heal := healT, ren := renT }
theorem f92.b_eq {R : Type} (L N : Nat) (κ : AV → Dens [(.sl (.int .u8)), i64] → Option R) (c0 : LI) (c1 : Int) :
    evBody (E92 L N) (evCallI (E92 L N) 0 1000) 1000 92 Try.f92 [(.ptr 0 0)] [.ptr 0 0] [(0, (.box [(.tv (.sl (.int .u8)) c0), (.tv i64 c1)]))] (finM (.one i64) [(.sl (.int .u8)), i64] κ)
    = f92.b L N (fun a0 a1 a2 => κ (.tv i64 a0) (a1, a2, ())) c0 c1 := by kernel_rfl
theorem f92.ok (L N : Nat) (hΦ : TellsOk Try.prog ((Φ45 L N))) : EntOk Try.prog 92 (f92.ent L N) := by
  intro args vw site h
  unfold f92.ent
  split
  · rename_i o d0 d u ha
    intro y hy hs
    obtain ⟨rest, cs, rfl, ho, hd0, hr, hu⟩ := boxD_some ha
    refine call_box (y := y) (dep := 1000) (v' := (.tv i64 y.1)) (d1 := (y.2.1, y.2.2, ())) (E := (E92 L N)) (ts := [(.sl (.int .u8)), i64]) (tr := []) (rs := (.one i64)) (κ := (fun v d => (unR (.one i64) v).bind fun x => some (x, d.1, d.2.1))) (sound_of hΦ) okP (callI_sound (sound_of hΦ) okP 0 1000) (f := Try.f92) rfl hs ho hd0 hr hu ?_ (fun _ _ h => by obtain ⟨x, h1, h2⟩ := unR_bind h; obtain rfl := Option.some.inj h2; exact ⟨h1, rfl⟩) site
    exact (f92.b_eq L N (fun v d => (unR (.one i64) v).bind fun x => some (x, d.1, d.2.1)) d0.1 d0.2.1).trans (Eq.trans (b := f92.b L N (fun a0 a1 a2 => some (a0, a1, a2)) d0.1 d0.2.1) (by kernel_rfl) hy)
  · intro y hy
    cases hy
def Φ92 (L N : Nat) : Tells := (addT (Φ45 L N) 92 (f92.ent L N))
theorem Φ92_ok (L N : Nat) : TellsOk Try.prog (Φ92 L N) := addT_ok (Φ45_ok L N) (f92.ok L N (Φ45_ok L N))
def f108.j0' {R : Type} (L N : Nat) (self108 : LI → Int → Int → Int → Bool → Option (Tree × LI × Int)) (k : Tree → LI → Int → Option R) (v10 : Int) (v11 : Int) (v12 : Bool) (v13 : Int) (v14 : Bool) (v15 : LI) (v16 : Int) (v17 : Int) (v18 : Int) : Option R :=
  bif v14 then
    (f56 L N v15 v16 v11).bind fun y19 =>
    k (Tree.mk (5 : Int) y19.1 []) y19.2.1 y19.2.2
  else bif (v13 == (0 : Int)) then
    k (Tree.mk (0 : Int) (0 : Int) []) v15 v16
  else bif (decide (v13 < (5 : Int))) then
    (f92 L N v15 v16).bind fun y20 =>
    bif (v10 == (0 : Int)) then
      k (Tree.mk (1 : Int) y20.1 ([(Tree.mk (0 : Int) (0 : Int) [])] : LT)) y20.2.1 y20.2.2
    else (self108 y20.2.1 y20.2.2 (bif decide ((wi (v10 - (1 : Int))) > (0 : Int)) then (wi (v10 - (1 : Int))) else (0 : Int)) v11 true).bind fun y21 =>
    k (Tree.mk (1 : Int) y20.1 ([y21.1] : LT)) y21.2.1 y21.2.2
  else bif (v13 == (5 : Int)) then
    (f56 L N v15 v16 (4 : Int)).bind fun y22 =>
    (self108 y22.2.1 y22.2.2 (wi (v10 - (1 : Int))) v11 v12).bind fun y23 =>
    k (Tree.mk (4 : Int) y22.1 ([y23.1] : LT)) y23.2.1 y23.2.2
  else bif (v13 == (8 : Int)) then
    (self108 v15 v16 (wi (v10 - (1 : Int))) v11 v12).bind fun y34 =>
    (self108 y34.2.1 y34.2.2 (wi (v10 - (1 : Int))) v11 v12).bind fun y35 =>
    k (Tree.mk (3 : Int) (0 : Int) ([(Tree.mk y34.1.op y34.1.n y34.1.parts), (Tree.mk y35.1.op y35.1.n y35.1.parts)] : LT)) y35.2.1 y35.2.2
  else (self108 v15 v16 (wi (v10 - (1 : Int))) v11 v12).bind fun y36 =>
  (self108 y36.2.1 y36.2.2 (wi (v10 - (1 : Int))) v11 v12).bind fun y37 =>
  k (Tree.mk (2 : Int) (0 : Int) ([(Tree.mk y36.1.op y36.1.n y36.1.parts), (Tree.mk y37.1.op y37.1.n y37.1.parts)] : LT)) y37.2.1 y37.2.2
def f108.j1' {R : Type} (L N : Nat) (self108 : LI → Int → Int → Int → Bool → Option (Tree × LI × Int)) (k : Tree → LI → Int → Option R) (v2 : Int) (v3 : Int) (v4 : Bool) (v5 : Int) (v6 : LI) (v7 : Int) (v8 : Int) (v9 : Int) : Option R :=
  bif (decide (v5 < (2 : Int))) then
    bif (decide (v3 > (0 : Int))) then
      f108.j0' L N self108 k v2 v3 v4 v5 v4 v6 v7 v8 v9
    else f108.j0' L N self108 k v2 v3 v4 v5 false v6 v7 v8 v9
  else f108.j0' L N self108 k v2 v3 v4 v5 false v6 v7 v8 v9
def f108.b' {R : Type} (L N : Nat) (self108 : LI → Int → Int → Int → Bool → Option (Tree × LI × Int)) (k : Tree → LI → Int → Option R) (c0 : LI) (c1 : Int) (x0 : Int) (x1 : Int) (x2 : Bool) : Option R :=
  (f56 L N c0 c1 (9 : Int)).bind fun y0 =>
  bif (x0 == (0 : Int)) then
    (f56 L N y0.2.1 y0.2.2 (2 : Int)).bind fun y1 =>
    f108.j1' L N self108 k x0 x1 x2 y1.1 y1.2.1 y1.2.2 (0 : Int) (0 : Int)
  else f108.j1' L N self108 k x0 x1 x2 y0.1 y0.2.1 y0.2.2 (0 : Int) (0 : Int)
def f108.b {R : Type} (L N : Nat) (self108 : LI → Int → Int → Int → Bool → Option (Tree × LI × Int)) (k : Tree → LI → Int → Option R) (c0 : LI) (c1 : Int) (x0 : Int) (x1 : Int) (x2 : Bool) : Option R :=
  f108.b' L N self108 k c0 c1 x0 x1 x2
def f108 (L N : Nat) : Nat → LI → Int → Int → Int → Bool → Option (Tree × LI × Int)
  | 0, _, _, _, _, _ => none
  | n + 1, c0, c1, x0, x1, x2 => f108.b L N (f108 L N n) (fun a0 a1 a2 => some (a0, a1, a2)) c0 c1 x0 x1 x2
def f108.ent (L N m : Nat) (args : List AV) (vw : View) (site : Nat) : Ans := match boxD [(.sl (.int .u8)), i64] [i64, i64, .bool] vw args with
  | some (o, d0, d, u) => ⟨Tree × LI × Int, f108 L N m d0.1 d0.2.1 d.1 d.2.1 d.2.2.1, fun y => ((.tv (.st 1) y.1), u ++ [(o, some (.box [(.tv (.sl (.int .u8)) y.2.1), (.tv i64 y.2.2)]))], [])⟩
  | none => Ans.no
def Φ108s (L N m : Nat) : Tells := (addT (Φ92 L N) 108 (f108.ent L N m))
noncomputable def E108 (L N m : Nat) : Env := { P := Try.prog, ty := tyOf, Φ := Φ108s L N m, inl := inlT, live := lives, liveX := livesX, L := L, dp := none, prom := promT, heal := healT, ren := renT }
theorem f108.b_eq {R : Type} (L N m : Nat) (κ : AV → Dens [(.sl (.int .u8)), i64] → Option R) (c0 : LI) (c1 : Int) (x0 : Int) (x1 : Int) (x2 : Bool) :
    evBody (E108 L N m) (evCallI (E108 L N m) 0 1000) 1000 108 Try.f108 [(.ptr 0 0), (.tv i64 x0), (.tv i64 x1), (.tv .bool x2)] [.ptr 0 0] [(0, (.box [(.tv (.sl (.int .u8)) c0), (.tv i64 c1)]))] (finM (.one (.st 1)) [(.sl (.int .u8)), i64] κ)
    = f108.b L N (f108 L N m) (fun a0 a1 a2 => κ (.tv (.st 1) a0) (a1, a2, ())) c0 c1 x0 x1 x2 := by kernel_rfl
theorem f108.ok (L N m : Nat) (hΦ : TellsOk Try.prog (Φ108s L N m)) : EntOk Try.prog 108 (f108.ent L N (m + 1)) := by
  intro args vw site h
  unfold f108.ent
  split
  · rename_i o d0 d u ha
    intro y hy hs
    obtain ⟨rest, cs, rfl, ho, hd0, hr, hu⟩ := boxD_some ha
    refine call_box (y := y) (dep := 1000) (v' := (.tv (.st 1) y.1)) (d1 := (y.2.1, y.2.2, ())) (E := (E108 L N m)) (ts := [(.sl (.int .u8)), i64]) (tr := [i64, i64, .bool]) (rs := (.one (.st 1))) (κ := (fun v d => (unR (.one (.st 1)) v).bind fun x => some (x, d.1, d.2.1))) (sound_of hΦ) okP (callI_sound (sound_of hΦ) okP 0 1000) (f := Try.f108) rfl hs ho hd0 hr hu ?_ (fun _ _ h => by obtain ⟨x, h1, h2⟩ := unR_bind h; obtain rfl := Option.some.inj h2; exact ⟨h1, rfl⟩) site
    exact (f108.b_eq L N m (fun v d => (unR (.one (.st 1)) v).bind fun x => some (x, d.1, d.2.1)) d0.1 d0.2.1 d.1 d.2.1 d.2.2.1).trans (Eq.trans (b := f108.b L N (f108 L N m) (fun a0 a1 a2 => some (a0, a1, a2)) d0.1 d0.2.1 d.1 d.2.1 d.2.2.1) (by kernel_rfl) hy)
  · intro y hy
    cases hy
theorem Φ108s_ok (L N : Nat) : ∀ m, TellsOk Try.prog (Φ108s L N m) := by
  intro m
  induction m with
  | zero => exact (addT_ok (Φ92_ok L N) (fun args vw site h => by unfold f108.ent; split <;> (intro y hy; cases hy)))
  | succ m ih => exact (addT_ok (Φ92_ok L N) (f108.ok L N m ih))
def Φ108 (L N : Nat) : Tells := (addT (Φ92 L N) 108 (f108.ent L N N))
theorem Φ108_ok (L N : Nat) : TellsOk Try.prog (Φ108 L N) := Φ108s_ok L N N
def f102.s0' {R : Type} (L N : Nat) (k0_e0 : Int → LI → Int → LT → Option R) (rec0 : Int → Int → LI → Int → LT → Option R) (s1 : Int) (s2 : Int) (s3 : LI) (s4 : Int) (s5 : LT) : Option R :=
  bif (decide (s2 < s1)) then
    (f56 L N s3 s4 (3 : Int)).bind fun y10 =>
    (f108 L N N y10.2.1 y10.2.2 (wi ((1 : Int) + y10.1)) s1 false).bind fun y11 =>
    bif (decide (s5.length + ([y11.1] : LT).length ≤ lim)) then
      rec0 s1 (wi (s2 + (1 : Int))) y11.2.1 y11.2.2 (s5 ++ ([y11.1] : LT))
    else none
  else k0_e0 s1 s3 s4 s5
def f102.s0 {R : Type} (L N : Nat) (k0_e0 : Int → LI → Int → LT → Option R) (rec0 : Int → Int → LI → Int → LT → Option R) (s1 : Int) (s2 : Int) (s3 : LI) (s4 : Int) (s5 : LT) : Option R :=
  f102.s0' L N k0_e0 rec0 s1 s2 s3 s4 s5
def f102.l0 {R : Type} (L N : Nat) (k0_e0 : Int → LI → Int → LT → Option R) : Nat → Int → Int → LI → Int → LT → Option R
  | 0, _, _, _, _, _ => none
  | n + 1, s1, s2, s3, s4, s5 => f102.s0 L N k0_e0 (f102.l0 L N k0_e0 n) s1 s2 s3 s4 s5
def f102.T0 (s1 : Int) (s2 : Int) (s3 : LI) (s4 : Int) (s5 : LT) : T := mkT 41 [(0, (.ptr 0 0)), (3, (.tv i64 s1)), (4, (.row 1008)), (5, (.tv i64 s2))] ++ [.ptr 0 0]
def f102.H0 (s1 : Int) (s2 : Int) (s3 : LI) (s4 : Int) (s5 : LT) : H := [(0, (.box [(.tv (.sl (.int .u8)) s3), (.tv i64 s4)])), (1008, (.row 102 (.st 1) s5))]
def f102.T0_e0 (z6 : Int) (z7 : LI) (z8 : Int) (z9 : LT) : T := mkT 41 [(0, (.ptr 0 0)), (3, (.tv i64 z6)), (4, (.row 1008))] ++ [.ptr 0 0]
def f102.H0_e0 (z6 : Int) (z7 : LI) (z8 : Int) (z9 : LT) : H := [(0, (.box [(.tv (.sl (.int .u8)) z7), (.tv i64 z8)])), (1008, (.row 102 (.st 1) z9))]
def f102.j0' {R : Type} (L N : Nat) (k : LT → LI → Int → Option R) (v13 : Int) (v14 : Bool) (v15 : LI) (v16 : Int) (v17 : LT) : Option R :=
  bif v14 then
    (f56 L N v15 v16 v13).bind fun y18 =>
    (f56 L N y18.2.1 y18.2.2 (wi (v13 + (1 : Int)))).bind fun y19 =>
    bif (decide (0 ≤ y18.1) && decide (y18.1 < (v17.length : Int))) then
      k (v17.set y18.1.toNat (Tree.mk (5 : Int) y19.1 [])) y19.2.1 y19.2.2
    else none
  else k v17 v15 v16
def f102.p0_e0' {R : Type} (L N : Nat) (k : LT → LI → Int → Option R) (z6 : Int) (z7 : LI) (z8 : Int) (z9 : LT) : Option R :=
  bif (decide (z6 > (0 : Int))) then
    (f56 L N z7 z8 (20 : Int)).bind fun y12 =>
    f102.j0' L N k z6 (y12.1 == (0 : Int)) y12.2.1 y12.2.2 z9
  else f102.j0' L N k z6 false z7 z8 z9
def f102.p0_e0 {R : Type} (L N : Nat) (k : LT → LI → Int → Option R) (z6 : Int) (z7 : LI) (z8 : Int) (z9 : LT) : Option R :=
  f102.p0_e0' L N k z6 z7 z8 z9
def f102.b' {R : Type} (L N : Nat) (k : LT → LI → Int → Option R) (w0 : Int → Int → LI → Int → LT → Option R) (c0 : LI) (c1 : Int) : Option R :=
  (f56 L N c0 c1 (4 : Int)).bind fun y0 =>
  w0 y0.1 (0 : Int) y0.2.1 y0.2.2 ([] : LT)
def f102.b {R : Type} (L N : Nat) (k : LT → LI → Int → Option R) (c0 : LI) (c1 : Int) : Option R :=
  f102.b' L N k (fun s1 s2 s3 s4 s5 => f102.l0 L N (fun z6 z7 z8 z9 => f102.p0_e0 L N k z6 z7 z8 z9) L s1 s2 s3 s4 s5) c0 c1
def f102 (L N : Nat) (c0 : LI) (c1 : Int) : Option (LT × LI × Int) := f102.b L N (fun a0 a1 a2 => some (a0, a1, a2)) c0 c1
def f102.ent (L N : Nat) (args : List AV) (vw : View) (site : Nat) : Ans := match boxD [(.sl (.int .u8)), i64] [] vw args with
  | some (o, d0, d, u) => ⟨LT × LI × Int, f102 L N d0.1 d0.2.1, fun y => ((.tv (.sl (.st 1)) y.1), u ++ [(o, some (.box [(.tv (.sl (.int .u8)) y.2.1), (.tv i64 y.2.2)]))], [])⟩
  | none => Ans.no
noncomputable def E102 (L N : Nat) : Env := { P := Try.prog, ty := tyOf, Φ := (Φ108 L N), inl := inlT, live := lives, liveX := livesX, L := L, dp := none, prom := promT, heal := healT, ren := renT }
noncomputable def f102.c0 : Code := loopAt 0 (codeOf Try.f102)
theorem f102.s0_eq {R : Type} (L N : Nat) (κ : Ex → T → H → Option R) (rec : T → H → Option R) (s1 : Int) (s2 : Int) (s3 : LI) (s4 : Int) (s5 : LT) :
    evRd (E102 L N) (evCallI (E102 L N) 0 1000) 1000 102 41 0 f102.c0 κ rec (f102.T0 s1 s2 s3 s4 s5) (f102.H0 s1 s2 s3 s4 s5)
    = f102.s0 L N (fun z6 z7 z8 z9 => κ (.exit 0) (f102.T0_e0 z6 z7 z8 z9) (f102.H0_e0 z6 z7 z8 z9)) (fun s1 s2 s3 s4 s5 => rec (f102.T0 s1 s2 s3 s4 s5) (f102.H0 s1 s2 s3 s4 s5)) s1 s2 s3 s4 s5 := by kernel_rfl
theorem f102.l0_eq {R : Type} (L N : Nat) (κ : Ex → T → H → Option R) : ∀ (n : Nat) (s1 : Int) (s2 : Int) (s3 : LI) (s4 : Int) (s5 : LT),
    evLp (E102 L N) (evCallI (E102 L N) 0 1000) 1000 102 41 0 f102.c0 κ n (f102.T0 s1 s2 s3 s4 s5) (f102.H0 s1 s2 s3 s4 s5)
    = f102.l0 L N (fun z6 z7 z8 z9 => κ (.exit 0) (f102.T0_e0 z6 z7 z8 z9) (f102.H0_e0 z6 z7 z8 z9)) n s1 s2 s3 s4 s5 := by
  intro n
  induction n with
  | zero => intros; rfl
  | succ n ih =>
    intro s1 s2 s3 s4 s5
    rw [evLp_succ, f102.s0_eq]
    simp only [ih]
    rfl
theorem f102.p0_e0_eq {R : Type} (L N : Nat) (κ : AV → Dens [(.sl (.int .u8)), i64] → Option R) (z6 : Int) (z7 : LI) (z8 : Int) (z9 : LT) :
    (contAt (E102 L N) (evCallI (E102 L N) 0 1000) 1000 102 41 0 (codeOf Try.f102) (finK (E102 L N) 1000 Try.f102 (finM (.one (.sl (.st 1))) [(.sl (.int .u8)), i64] κ))) (.exit 0) (f102.T0_e0 z6 z7 z8 z9) (f102.H0_e0 z6 z7 z8 z9)
    = f102.p0_e0 L N (fun a0 a1 a2 => κ (.tv (.sl (.st 1)) a0) (a1, a2, ())) z6 z7 z8 z9 := by kernel_rfl
theorem f102.b_eq {R : Type} (L N : Nat) (κ : AV → Dens [(.sl (.int .u8)), i64] → Option R) (c0 : LI) (c1 : Int) :
    evBody (E102 L N) (evCallI (E102 L N) 0 1000) 1000 102 Try.f102 [(.ptr 0 0)] [.ptr 0 0] [(0, (.box [(.tv (.sl (.int .u8)) c0), (.tv i64 c1)]))] (finM (.one (.sl (.st 1))) [(.sl (.int .u8)), i64] κ)
    = f102.b L N (fun a0 a1 a2 => κ (.tv (.sl (.st 1)) a0) (a1, a2, ())) c0 c1 := by
  refine Eq.trans (b := f102.b' L N (fun a0 a1 a2 => κ (.tv (.sl (.st 1)) a0) (a1, a2, ())) (fun s1 s2 s3 s4 s5 => evLp (E102 L N) (evCallI (E102 L N) 0 1000) 1000 102 41 0 f102.c0 (contAt (E102 L N) (evCallI (E102 L N) 0 1000) 1000 102 41 0 (codeOf Try.f102) (finK (E102 L N) 1000 Try.f102 (finM (.one (.sl (.st 1))) [(.sl (.int .u8)), i64] κ))) L (f102.T0 s1 s2 s3 s4 s5) (f102.H0 s1 s2 s3 s4 s5)) c0 c1) (by kernel_rfl) ?_
  unfold f102.b
  simp only [f102.l0_eq, f102.p0_e0_eq]
theorem f102.ok (L N : Nat) (hΦ : TellsOk Try.prog ((Φ108 L N))) : EntOk Try.prog 102 (f102.ent L N) := by
  intro args vw site h
  unfold f102.ent
  split
  · rename_i o d0 d u ha
    intro y hy hs
    obtain ⟨rest, cs, rfl, ho, hd0, hr, hu⟩ := boxD_some ha
    refine call_box (y := y) (dep := 1000) (v' := (.tv (.sl (.st 1)) y.1)) (d1 := (y.2.1, y.2.2, ())) (E := (E102 L N)) (ts := [(.sl (.int .u8)), i64]) (tr := []) (rs := (.one (.sl (.st 1)))) (κ := (fun v d => (unR (.one (.sl (.st 1))) v).bind fun x => some (x, d.1, d.2.1))) (sound_of hΦ) okP (callI_sound (sound_of hΦ) okP 0 1000) (f := Try.f102) rfl hs ho hd0 hr hu ?_ (fun _ _ h => by obtain ⟨x, h1, h2⟩ := unR_bind h; obtain rfl := Option.some.inj h2; exact ⟨h1, rfl⟩) site
    exact (f102.b_eq L N (fun v d => (unR (.one (.sl (.st 1))) v).bind fun x => some (x, d.1, d.2.1)) d0.1 d0.2.1).trans (Eq.trans (b := f102.b L N (fun a0 a1 a2 => some (a0, a1, a2)) d0.1 d0.2.1) (by kernel_rfl) hy)
  · intro y hy
    cases hy
def Φ102 (L N : Nat) : Tells := (addT (Φ108 L N) 102 (f102.ent L N))
theorem Φ102_ok (L N : Nat) : TellsOk Try.prog (Φ102 L N) := addT_ok (Φ108_ok L N) (f102.ok L N (Φ108_ok L N))
def f103.b' {R : Type} (L N : Nat) (k : Tree → LI → Int → Option R) (c0 : LI) (c1 : Int) (x0 : Int) : Option R :=
  (f56 L N c0 c1 (4 : Int)).bind fun y0 =>
  (f108 L N N y0.2.1 y0.2.2 (wi ((1 : Int) + y0.1)) x0 false).bind fun y1 =>
  (f56 L N y1.2.1 y1.2.2 (24 : Int)).bind fun y2 =>
  bif (y2.1 == (0 : Int)) then
    k (Tree.mk ((Tree.mk y1.1.op (wi (y1.1.n + (7 : Int))) y1.1.parts).op) ((Tree.mk y1.1.op (wi (y1.1.n + (7 : Int))) y1.1.parts).n) ((Tree.mk y1.1.op (wi (y1.1.n + (7 : Int))) y1.1.parts).parts)) y2.2.1 y2.2.2
  else bif (y2.1 == (1 : Int)) then
    (f56 L N y2.2.1 y2.2.2 (8 : Int)).bind fun y3 =>
    k (Tree.mk ((Tree.mk y3.1 y1.1.n y1.1.parts).op) ((Tree.mk y3.1 y1.1.n y1.1.parts).n) ((Tree.mk y3.1 y1.1.n y1.1.parts).parts)) y3.2.1 y3.2.2
  else bif (y2.1 == (2 : Int)) then
    bif (decide (([(Tree.mk (0 : Int) (0 : Int) [])] : LT).length + y1.1.parts.length ≤ lim)) then
      k (Tree.mk y1.1.op y1.1.n (([(Tree.mk (0 : Int) (0 : Int) [])] : LT) ++ y1.1.parts)) y2.2.1 y2.2.2
    else none
  else k (Tree.mk ((Tree.mk y1.1.op y1.1.n y1.1.parts).op) ((Tree.mk y1.1.op y1.1.n y1.1.parts).n) ((Tree.mk y1.1.op y1.1.n y1.1.parts).parts)) y2.2.1 y2.2.2
def f103.b {R : Type} (L N : Nat) (k : Tree → LI → Int → Option R) (c0 : LI) (c1 : Int) (x0 : Int) : Option R :=
  f103.b' L N k c0 c1 x0
def f103 (L N : Nat) (c0 : LI) (c1 : Int) (x0 : Int) : Option (Tree × LI × Int) := f103.b L N (fun a0 a1 a2 => some (a0, a1, a2)) c0 c1 x0
def f103.ent (L N : Nat) (args : List AV) (vw : View) (site : Nat) : Ans := match boxD [(.sl (.int .u8)), i64] [i64] vw args with
  | some (o, d0, d, u) => ⟨Tree × LI × Int, f103 L N d0.1 d0.2.1 d.1, fun y => ((.tv (.st 1) y.1), u ++ [(o, some (.box [(.tv (.sl (.int .u8)) y.2.1), (.tv i64 y.2.2)]))], [])⟩
  | none => Ans.no
noncomputable def E103 (L N : Nat) : Env := { P := Try.prog, ty := tyOf, Φ := (Φ102 L N), inl := inlT, live := lives, liveX := livesX, L := L, dp := none, prom := promT, heal := healT, ren := renT }
theorem f103.b_eq {R : Type} (L N : Nat) (κ : AV → Dens [(.sl (.int .u8)), i64] → Option R) (c0 : LI) (c1 : Int) (x0 : Int) :
    evBody (E103 L N) (evCallI (E103 L N) 0 1000) 1000 103 Try.f103 [(.ptr 0 0), (.tv i64 x0)] [.ptr 0 0] [(0, (.box [(.tv (.sl (.int .u8)) c0), (.tv i64 c1)]))] (finM (.one (.st 1)) [(.sl (.int .u8)), i64] κ)
    = f103.b L N (fun a0 a1 a2 => κ (.tv (.st 1) a0) (a1, a2, ())) c0 c1 x0 := by kernel_rfl
theorem f103.ok (L N : Nat) (hΦ : TellsOk Try.prog ((Φ102 L N))) : EntOk Try.prog 103 (f103.ent L N) := by
  intro args vw site h
  unfold f103.ent
  split
  · rename_i o d0 d u ha
    intro y hy hs
    obtain ⟨rest, cs, rfl, ho, hd0, hr, hu⟩ := boxD_some ha
    refine call_box (y := y) (dep := 1000) (v' := (.tv (.st 1) y.1)) (d1 := (y.2.1, y.2.2, ())) (E := (E103 L N)) (ts := [(.sl (.int .u8)), i64]) (tr := [i64]) (rs := (.one (.st 1))) (κ := (fun v d => (unR (.one (.st 1)) v).bind fun x => some (x, d.1, d.2.1))) (sound_of hΦ) okP (callI_sound (sound_of hΦ) okP 0 1000) (f := Try.f103) rfl hs ho hd0 hr hu ?_ (fun _ _ h => by obtain ⟨x, h1, h2⟩ := unR_bind h; obtain rfl := Option.some.inj h2; exact ⟨h1, rfl⟩) site
    exact (f103.b_eq L N (fun v d => (unR (.one (.st 1)) v).bind fun x => some (x, d.1, d.2.1)) d0.1 d0.2.1 d.1).trans (Eq.trans (b := f103.b L N (fun a0 a1 a2 => some (a0, a1, a2)) d0.1 d0.2.1 d.1) (by kernel_rfl) hy)
  · intro y hy
    cases hy
def Φ103 (L N : Nat) : Tells := (addT (Φ102 L N) 103 (f103.ent L N))
theorem Φ103_ok (L N : Nat) : TellsOk Try.prog (Φ103 L N) := addT_ok (Φ102_ok L N) (f103.ok L N (Φ102_ok L N))
def f88.j0' {R : Type} (L N : Nat) (k : Tree → LT → LI → Int → Option R) (v3 : LT) (v4 : Bool) (v5 : LI) (v6 : Int) (v7 : Int) (v8 : Int) (v9 : Int) (v10 : Int) (v11 : LT) : Option R :=
  bif v4 then
    (f56 L N v5 v6 (v3.length : Int)).bind fun y12 =>
    k (Tree.mk (5 : Int) y12.1 []) v3 y12.2.1 y12.2.2
  else k (Tree.mk ((Tree.mk v9 v10 v11).op) ((Tree.mk v9 v10 v11).n) ((Tree.mk v9 v10 v11).parts)) v3 v5 v6
def f88.b' {R : Type} (L N : Nat) (k : Tree → LT → LI → Int → Option R) (c0 : LI) (c1 : Int) : Option R :=
  (f102 L N c0 c1).bind fun y0 =>
  (f103 L N y0.2.1 y0.2.2 (y0.1.length : Int)).bind fun y1 =>
  bif (decide ((y0.1.length : Int) > (0 : Int))) then
    (f56 L N y1.2.1 y1.2.2 (3 : Int)).bind fun y2 =>
    f88.j0' L N k y0.1 (y2.1 == (0 : Int)) y2.2.1 y2.2.2 (0 : Int) (0 : Int) y1.1.op y1.1.n y1.1.parts
  else f88.j0' L N k y0.1 false y1.2.1 y1.2.2 (0 : Int) (0 : Int) y1.1.op y1.1.n y1.1.parts
def f88.b {R : Type} (L N : Nat) (k : Tree → LT → LI → Int → Option R) (c0 : LI) (c1 : Int) : Option R :=
  f88.b' L N k c0 c1
def f88 (L N : Nat) (c0 : LI) (c1 : Int) : Option (Tree × LT × LI × Int) := f88.b L N (fun a0 a1 a2 a3 => some (a0, a1, a2, a3)) c0 c1
def f88.ent (L N : Nat) (args : List AV) (vw : View) (site : Nat) : Ans := match boxD [(.sl (.int .u8)), i64] [] vw args with
  | some (o, d0, d, u) => ⟨Tree × LT × LI × Int, f88 L N d0.1 d0.2.1, fun y => ((.tup [(.tv (.st 1) y.1), (.tv (.sl (.st 1)) y.2.1)]), u ++ [(o, some (.box [(.tv (.sl (.int .u8)) y.2.2.1), (.tv i64 y.2.2.2)]))], [])⟩
  | none => Ans.no
noncomputable def E88 (L N : Nat) : Env := { P := Try.prog, ty := tyOf, Φ := (Φ103 L N), inl := inlT, live := lives, liveX := livesX, L := L, dp := none, prom := promT, heal := healT, ren := renT }
theorem f88.b_eq {R : Type} (L N : Nat) (κ : AV → Dens [(.sl (.int .u8)), i64] → Option R) (c0 : LI) (c1 : Int) :
    evBody (E88 L N) (evCallI (E88 L N) 0 1000) 1000 88 Try.f88 [(.ptr 0 0)] [.ptr 0 0] [(0, (.box [(.tv (.sl (.int .u8)) c0), (.tv i64 c1)]))] (finM (.many [(.st 1), (.sl (.st 1))]) [(.sl (.int .u8)), i64] κ)
    = f88.b L N (fun a0 a1 a2 a3 => κ (.tup [(.tv (.st 1) a0), (.tv (.sl (.st 1)) a1)]) (a2, a3, ())) c0 c1 := by kernel_rfl
theorem f88.ok (L N : Nat) (hΦ : TellsOk Try.prog ((Φ103 L N))) : EntOk Try.prog 88 (f88.ent L N) := by
  intro args vw site h
  unfold f88.ent
  split
  · rename_i o d0 d u ha
    intro y hy hs
    obtain ⟨rest, cs, rfl, ho, hd0, hr, hu⟩ := boxD_some ha
    refine call_box (y := y) (dep := 1000) (v' := (.tup [(.tv (.st 1) y.1), (.tv (.sl (.st 1)) y.2.1)])) (d1 := (y.2.2.1, y.2.2.2, ())) (E := (E88 L N)) (ts := [(.sl (.int .u8)), i64]) (tr := []) (rs := (.many [(.st 1), (.sl (.st 1))])) (κ := (fun v d => (unR (.many [(.st 1), (.sl (.st 1))]) v).bind fun x => some (x.1, x.2, d.1, d.2.1))) (sound_of hΦ) okP (callI_sound (sound_of hΦ) okP 0 1000) (f := Try.f88) rfl hs ho hd0 hr hu ?_ (fun _ _ h => by obtain ⟨x, h1, h2⟩ := unR_bind h; obtain rfl := Option.some.inj h2; exact ⟨h1, rfl⟩) site
    exact (f88.b_eq L N (fun v d => (unR (.many [(.st 1), (.sl (.st 1))]) v).bind fun x => some (x.1, x.2, d.1, d.2.1)) d0.1 d0.2.1).trans (Eq.trans (b := f88.b L N (fun a0 a1 a2 a3 => some (a0, a1, a2, a3)) d0.1 d0.2.1) (by kernel_rfl) hy)
  · intro y hy
    cases hy
def Φ88 (L N : Nat) : Tells := (addT (Φ103 L N) 88 (f88.ent L N))
theorem Φ88_ok (L N : Nat) : TellsOk Try.prog (Φ88 L N) := addT_ok (Φ103_ok L N) (f88.ok L N (Φ103_ok L N))
def f114.j0' {R : Type} (L N : Nat) (self114 : Tree → Bool → Option (Int)) (k0_e0 : Int → Option R) (rec0 : Bool → Int → Int → Int → Int → LT → Option R) (v14 : Bool) (v15 : Int) (v16 : Int) (v17 : Int) (v18 : Int) (v19 : LT) : Option R :=
  bif (decide (0 ≤ v16) && decide (v16 < (v19.length : Int))) then
    (self114 (listAt v19 (Ty.dflt (.st 1)) v16.toNat) v14).bind fun y20 =>
    rec0 v14 (bif decide (y20 > v15) then y20 else v15) (wi (v16 + (1 : Int))) v17 v18 v19
  else none
def f114.s0' {R : Type} (L N : Nat) (self114 : Tree → Bool → Option (Int)) (k0_e0 : Int → Option R) (rec0 : Bool → Int → Int → Int → Int → LT → Option R) (s0 : Bool) (s1 : Int) (s2 : Int) (s3 : Int) (s4 : Int) (s5 : LT) : Option R :=
  bif (decide (s2 < (s5.length : Int))) then
    bif s0 then
      bif (!(s3 == (1 : Int))) then
        f114.j0' L N self114 k0_e0 rec0 s0 s1 s2 s3 s4 s5
      else k0_e0 s1
    else bif (!false) then
      f114.j0' L N self114 k0_e0 rec0 s0 s1 s2 s3 s4 s5
    else k0_e0 s1
  else k0_e0 s1
def f114.s0 {R : Type} (L N : Nat) (self114 : Tree → Bool → Option (Int)) (k0_e0 : Int → Option R) (rec0 : Bool → Int → Int → Int → Int → LT → Option R) (s0 : Bool) (s1 : Int) (s2 : Int) (s3 : Int) (s4 : Int) (s5 : LT) : Option R :=
  f114.s0' L N self114 k0_e0 rec0 s0 s1 s2 s3 s4 s5
def f114.l0 {R : Type} (L N : Nat) (self114 : Tree → Bool → Option (Int)) (k0_e0 : Int → Option R) : Nat → Bool → Int → Int → Int → Int → LT → Option R
  | 0, _, _, _, _, _, _ => none
  | n + 1, s0, s1, s2, s3, s4, s5 => f114.s0 L N self114 k0_e0 (f114.l0 L N self114 k0_e0 n) s0 s1 s2 s3 s4 s5
def f114.T0 (s0 : Bool) (s1 : Int) (s2 : Int) (s3 : Int) (s4 : Int) (s5 : LT) : T := mkT 38 [(1, (.tv .bool s0)), (2, (.ptr 1002 0)), (5, (.tv i64 s1)), (6, (.tv i64 s2))]
def f114.H0 (s0 : Bool) (s1 : Int) (s2 : Int) (s3 : Int) (s4 : Int) (s5 : LT) : H := [(1002, (.box [(.tv i64 s3), (.tv i64 s4), (.tv (.sl (.st 1)) s5)]))]
def f114.T0_e0 (z13 : Int) : T := mkT 38 [(5, (.tv i64 z13))]
def f114.H0_e0 (z13 : Int) : H := []
def f114.p0_e0' {R : Type} (L N : Nat) (self114 : Tree → Bool → Option (Int)) (k : Int → Option R) (z13 : Int) : Option R :=
  k z13
def f114.p0_e0 {R : Type} (L N : Nat) (self114 : Tree → Bool → Option (Int)) (k : Int → Option R) (z13 : Int) : Option R :=
  f114.p0_e0' L N self114 k z13
def f114.b' {R : Type} (L N : Nat) (self114 : Tree → Bool → Option (Int)) (k : Int → Option R) (w0 : Bool → Int → Int → Int → Int → LT → Option R) (x0 : Tree) (x1 : Bool) : Option R :=
  bif (x0.op == (5 : Int)) then
    k x0.n
  else w0 x1 (-1 : Int) (0 : Int) x0.op x0.n x0.parts
def f114.b {R : Type} (L N : Nat) (self114 : Tree → Bool → Option (Int)) (k : Int → Option R) (x0 : Tree) (x1 : Bool) : Option R :=
  f114.b' L N self114 k (fun s0 s1 s2 s3 s4 s5 => f114.l0 L N self114 (fun z13 => f114.p0_e0 L N self114 k z13) L s0 s1 s2 s3 s4 s5) x0 x1
def f114 (L N : Nat) : Nat → Tree → Bool → Option (Int)
  | 0, _, _ => none
  | n + 1, x0, x1 => f114.b L N (f114 L N n) some x0 x1
def f114.ent (L N m : Nat) (args : List AV) (vw : View) (site : Nat) : Ans := match roD [(.st 1), .bool] vw args with
  | some d => ⟨Int, f114 L N m d.1 d.2.1, fun y => ((.tv i64 y), [], [])⟩
  | none => Ans.no
def Φ114s (L N m : Nat) : Tells := (addT (Φ88 L N) 114 (f114.ent L N m))
noncomputable def E114 (L N m : Nat) : Env := { P := Try.prog, ty := tyOf, Φ := Φ114s L N m, inl := inlT, live := lives, liveX := livesX, L := L, dp := none, prom := promT, heal := healT, ren := renT }
noncomputable def f114.c0 : Code := loopAt 0 (codeOf Try.f114)
theorem f114.s0_eq {R : Type} (L N m : Nat) (κ : Ex → T → H → Option R) (rec : T → H → Option R) (s0 : Bool) (s1 : Int) (s2 : Int) (s3 : Int) (s4 : Int) (s5 : LT) :
    evRd (E114 L N m) (evCallI (E114 L N m) 0 1000) 1000 114 38 0 f114.c0 κ rec (f114.T0 s0 s1 s2 s3 s4 s5) (f114.H0 s0 s1 s2 s3 s4 s5)
    = f114.s0 L N (f114 L N m) (fun z13 => κ (.exit 0) (f114.T0_e0 z13) (f114.H0_e0 z13)) (fun s0 s1 s2 s3 s4 s5 => rec (f114.T0 s0 s1 s2 s3 s4 s5) (f114.H0 s0 s1 s2 s3 s4 s5)) s0 s1 s2 s3 s4 s5 := by kernel_rfl
theorem f114.l0_eq {R : Type} (L N m : Nat) (κ : Ex → T → H → Option R) : ∀ (n : Nat) (s0 : Bool) (s1 : Int) (s2 : Int) (s3 : Int) (s4 : Int) (s5 : LT),
    evLp (E114 L N m) (evCallI (E114 L N m) 0 1000) 1000 114 38 0 f114.c0 κ n (f114.T0 s0 s1 s2 s3 s4 s5) (f114.H0 s0 s1 s2 s3 s4 s5)
    = f114.l0 L N (f114 L N m) (fun z13 => κ (.exit 0) (f114.T0_e0 z13) (f114.H0_e0 z13)) n s0 s1 s2 s3 s4 s5 := by
  intro n
  induction n with
  | zero => intros; rfl
  | succ n ih =>
    intro s0 s1 s2 s3 s4 s5
    rw [evLp_succ, f114.s0_eq]
    simp only [ih]
    rfl
theorem f114.p0_e0_eq {R : Type} (L N m : Nat) (κ : AV → Option R) (z13 : Int) :
    (contAt (E114 L N m) (evCallI (E114 L N m) 0 1000) 1000 114 38 0 (codeOf Try.f114) (finK (E114 L N m) 1000 Try.f114 (finC (.one i64) κ))) (.exit 0) (f114.T0_e0 z13) (f114.H0_e0 z13)
    = f114.p0_e0 L N (f114 L N m) (fun a0 => κ (.tv i64 a0)) z13 := by kernel_rfl
theorem f114.b_eq {R : Type} (L N m : Nat) (κ : AV → Option R) (x0 : Tree) (x1 : Bool) :
    evBody (E114 L N m) (evCallI (E114 L N m) 0 1000) 1000 114 Try.f114 [(.tv (.st 1) x0), (.tv .bool x1)] [] [] (finC (.one i64) κ)
    = f114.b L N (f114 L N m) (fun a0 => κ (.tv i64 a0)) x0 x1 := by
  refine Eq.trans (b := f114.b' L N (f114 L N m) (fun a0 => κ (.tv i64 a0)) (fun s0 s1 s2 s3 s4 s5 => evLp (E114 L N m) (evCallI (E114 L N m) 0 1000) 1000 114 38 0 f114.c0 (contAt (E114 L N m) (evCallI (E114 L N m) 0 1000) 1000 114 38 0 (codeOf Try.f114) (finK (E114 L N m) 1000 Try.f114 (finC (.one i64) κ))) L (f114.T0 s0 s1 s2 s3 s4 s5) (f114.H0 s0 s1 s2 s3 s4 s5)) x0 x1) (by kernel_rfl) ?_
  unfold f114.b
  simp only [f114.l0_eq, f114.p0_e0_eq]
theorem f114.ok (L N m : Nat) (hΦ : TellsOk Try.prog (Φ114s L N m)) : EntOk Try.prog 114 (f114.ent L N (m + 1)) := by
  intro args vw site h
  unfold f114.ent
  split
  · rename_i d ha
    intro y hy hs
    refine call_ro (dep := 1000) (E := (E114 L N m)) (rs := (.one i64)) (κ := unR (.one i64)) (sound_of hΦ) okP (callI_sound (sound_of hΦ) okP 0 1000) (f := Try.f114) rfl hs ha ?_ (fun _ h => unR_some h) rfl site
    exact (f114.b_eq L N m (unR (.one i64)) d.1 d.2.1).trans (Eq.trans (b := f114.b L N (f114 L N m) some d.1 d.2.1) (by kernel_rfl) hy)
  · intro y hy
    cases hy
theorem Φ114s_ok (L N : Nat) : ∀ m, TellsOk Try.prog (Φ114s L N m) := by
  intro m
  induction m with
  | zero => exact (addT_ok (Φ88_ok L N) (fun args vw site h => by unfold f114.ent; split <;> (intro y hy; cases hy)))
  | succ m ih => exact (addT_ok (Φ88_ok L N) (f114.ok L N m ih))
def Φ114 (L N : Nat) : Tells := (addT (Φ88 L N) 114 (f114.ent L N N))
theorem Φ114_ok (L N : Nat) : TellsOk Try.prog (Φ114 L N) := Φ114s_ok L N N
def f113.s0' {R : Type} (L N : Nat) (self113 : Tree → Option (Int)) (k0_e1 : Int → Option R) (k0_r : Int → Int → Option R) (rec0 : Int → Int → Int → Int → Int → LT → Option R) (s24 : Int) (s25 : Int) (s26 : Int) (s27 : Int) (s28 : Int) (s29 : LT) : Option R :=
  bif (decide (s26 < s24)) then
    bif (decide (0 ≤ s26) && decide (s26 < (s29.length : Int))) then
      (self113 (listAt s29 (Ty.dflt (.st 1)) s26.toNat)).bind fun y31 =>
      bif (y31 == (0 : Int)) then
        k0_r (0 : Int) s25
      else rec0 s24 (bif decide ((wi (s25 + y31)) < (1000 : Int)) then (wi (s25 + y31)) else (1000 : Int)) (wi (s26 + (1 : Int))) s27 s28 s29
    else none
  else k0_e1 s25
def f113.s0 {R : Type} (L N : Nat) (self113 : Tree → Option (Int)) (k0_e1 : Int → Option R) (k0_r : Int → Int → Option R) (rec0 : Int → Int → Int → Int → Int → LT → Option R) (s24 : Int) (s25 : Int) (s26 : Int) (s27 : Int) (s28 : Int) (s29 : LT) : Option R :=
  f113.s0' L N self113 k0_e1 k0_r rec0 s24 s25 s26 s27 s28 s29
def f113.l0 {R : Type} (L N : Nat) (self113 : Tree → Option (Int)) (k0_e1 : Int → Option R) (k0_r : Int → Int → Option R) : Nat → Int → Int → Int → Int → Int → LT → Option R
  | 0, _, _, _, _, _, _ => none
  | n + 1, s24, s25, s26, s27, s28, s29 => f113.s0 L N self113 k0_e1 k0_r (f113.l0 L N self113 k0_e1 k0_r n) s24 s25 s26 s27 s28 s29
def f113.T0 (s24 : Int) (s25 : Int) (s26 : Int) (s27 : Int) (s28 : Int) (s29 : LT) : T := mkT 60 [(1, (.ptr 1001 0)), (3, (.tv i64 s24)), (5, (.tv i64 s25)), (6, (.tv i64 s26))]
def f113.H0 (s24 : Int) (s25 : Int) (s26 : Int) (s27 : Int) (s28 : Int) (s29 : LT) : H := [(1001, (.box [(.tv i64 s27), (.tv i64 s28), (.tv (.sl (.st 1)) s29)]))]
def f113.T0_e1 (z30 : Int) : T := mkT 60 [(5, (.tv i64 z30))]
def f113.H0_e1 (z30 : Int) : H := []
def f113.T0_r (z32 : Int) (z33 : Int) : T := mkT 60 [(2, (.tv i64 z32)), (5, (.tv i64 z33))]
def f113.H0_r (z32 : Int) (z33 : Int) : H := []
def f113.p0_e1' {R : Type} (L N : Nat) (self113 : Tree → Option (Int)) (k : Int → Option R) (z30 : Int) : Option R :=
  k z30
def f113.p0_e1 {R : Type} (L N : Nat) (self113 : Tree → Option (Int)) (k : Int → Option R) (z30 : Int) : Option R :=
  f113.p0_e1' L N self113 k z30
def f113.p0_r' {R : Type} (L N : Nat) (self113 : Tree → Option (Int)) (k : Int → Option R) (z32 : Int) (z33 : Int) : Option R :=
  k z32
def f113.p0_r {R : Type} (L N : Nat) (self113 : Tree → Option (Int)) (k : Int → Option R) (z32 : Int) (z33 : Int) : Option R :=
  f113.p0_r' L N self113 k z32 z33
def f113.j1' {R : Type} (L N : Nat) (self113 : Tree → Option (Int)) (k : Int → Option R) (w0 : Int → Int → Int → Int → Int → LT → Option R) (v20 : Int) (v21 : Int) (v22 : Int) (v23 : LT) : Option R :=
  w0 v20 (1 : Int) (0 : Int) v21 v22 v23
def f113.j2' {R : Type} (L N : Nat) (self113 : Tree → Option (Int)) (k : Int → Option R) (w0 : Int → Int → Int → Int → Int → LT → Option R) (v10 : Int) (v11 : Bool) (v12 : Int) (v13 : Int) (v14 : LT) : Option R :=
  bif (!v11) then
    k (0 : Int)
  else bif ((v14.length : Int) != v10) then
    k (0 : Int)
  else f113.j1' L N self113 k w0 v10 v12 v13 v14
def f113.j0' {R : Type} (L N : Nat) (self113 : Tree → Option (Int)) (k : Int → Option R) (w0 : Int → Int → Int → Int → Int → LT → Option R) (v1 : Int) (v2 : Bool) (v3 : Int) (v4 : Bool) (v5 : Int) (v6 : Int) (v7 : LT) : Option R :=
  bif v4 then
    f113.j2' L N self113 k w0 (2 : Int) v2 v5 v6 v7
  else bif (v3 == (4 : Int)) then
    (f49 L N v6 (0 : Int) (3 : Int)).bind fun y8 =>
    f113.j2' L N self113 k w0 (1 : Int) y8 v5 v6 v7
  else bif (v3 == (5 : Int)) then
    (f49 L N v6 (0 : Int) (2 : Int)).bind fun y9 =>
    f113.j2' L N self113 k w0 v1 y9 v5 v6 v7
  else f113.j2' L N self113 k w0 v1 false v5 v6 v7
def f113.b' {R : Type} (L N : Nat) (self113 : Tree → Option (Int)) (k : Int → Option R) (w0 : Int → Int → Int → Int → Int → LT → Option R) (x0 : Tree) : Option R :=
  bif (x0.op == (0 : Int)) then
    f113.j2' L N self113 k w0 (0 : Int) (x0.n == (0 : Int)) x0.op x0.n x0.parts
  else bif (x0.op == (1 : Int)) then
    (f46 L N x0.n).bind fun y0 =>
    f113.j2' L N self113 k w0 (1 : Int) y0 x0.op x0.n x0.parts
  else bif (x0.op == (2 : Int)) then
    f113.j0' L N self113 k w0 (0 : Int) (x0.n == (0 : Int)) x0.op (x0.op == (2 : Int)) x0.op x0.n x0.parts
  else f113.j0' L N self113 k w0 (0 : Int) (x0.n == (0 : Int)) x0.op (x0.op == (3 : Int)) x0.op x0.n x0.parts
def f113.b {R : Type} (L N : Nat) (self113 : Tree → Option (Int)) (k : Int → Option R) (x0 : Tree) : Option R :=
  f113.b' L N self113 k (fun s24 s25 s26 s27 s28 s29 => f113.l0 L N self113 (fun z30 => f113.p0_e1 L N self113 k z30) (fun z32 z33 => f113.p0_r L N self113 k z32 z33) L s24 s25 s26 s27 s28 s29) x0
def f113 (L N : Nat) : Nat → Tree → Option (Int)
  | 0, _ => none
  | n + 1, x0 => f113.b L N (f113 L N n) some x0
def f113.ent (L N m : Nat) (args : List AV) (vw : View) (site : Nat) : Ans := match roD [(.st 1)] vw args with
  | some d => ⟨Int, f113 L N m d.1, fun y => ((.tv i64 y), [], [])⟩
  | none => Ans.no
def Φ113s (L N m : Nat) : Tells := (addT (Φ114 L N) 113 (f113.ent L N m))
noncomputable def E113 (L N m : Nat) : Env := { P := Try.prog, ty := tyOf, Φ := Φ113s L N m, inl := inlT, live := lives, liveX := livesX, L := L, dp := none, prom := promT, heal := healT, ren := renT }
noncomputable def f113.c0 : Code := loopAt 1 (codeOf Try.f113)
theorem f113.s0_eq {R : Type} (L N m : Nat) (κ : Ex → T → H → Option R) (rec : T → H → Option R) (s24 : Int) (s25 : Int) (s26 : Int) (s27 : Int) (s28 : Int) (s29 : LT) :
    evRd (E113 L N m) (evCallI (E113 L N m) 0 1000) 1000 113 60 1 f113.c0 κ rec (f113.T0 s24 s25 s26 s27 s28 s29) (f113.H0 s24 s25 s26 s27 s28 s29)
    = f113.s0 L N (f113 L N m) (fun z30 => κ (.exit 1) (f113.T0_e1 z30) (f113.H0_e1 z30)) (fun z32 z33 => κ .ret (f113.T0_r z32 z33) (f113.H0_r z32 z33)) (fun s24 s25 s26 s27 s28 s29 => rec (f113.T0 s24 s25 s26 s27 s28 s29) (f113.H0 s24 s25 s26 s27 s28 s29)) s24 s25 s26 s27 s28 s29 := by kernel_rfl
theorem f113.l0_eq {R : Type} (L N m : Nat) (κ : Ex → T → H → Option R) : ∀ (n : Nat) (s24 : Int) (s25 : Int) (s26 : Int) (s27 : Int) (s28 : Int) (s29 : LT),
    evLp (E113 L N m) (evCallI (E113 L N m) 0 1000) 1000 113 60 1 f113.c0 κ n (f113.T0 s24 s25 s26 s27 s28 s29) (f113.H0 s24 s25 s26 s27 s28 s29)
    = f113.l0 L N (f113 L N m) (fun z30 => κ (.exit 1) (f113.T0_e1 z30) (f113.H0_e1 z30)) (fun z32 z33 => κ .ret (f113.T0_r z32 z33) (f113.H0_r z32 z33)) n s24 s25 s26 s27 s28 s29 := by
  intro n
  induction n with
  | zero => intros; rfl
  | succ n ih =>
    intro s24 s25 s26 s27 s28 s29
    rw [evLp_succ, f113.s0_eq]
    simp only [ih]
    rfl
theorem f113.p0_e1_eq {R : Type} (L N m : Nat) (κ : AV → Option R) (z30 : Int) :
    (contAt (E113 L N m) (evCallI (E113 L N m) 0 1000) 1000 113 60 1 (codeOf Try.f113) (finK (E113 L N m) 1000 Try.f113 (finC (.one i64) κ))) (.exit 1) (f113.T0_e1 z30) (f113.H0_e1 z30)
    = f113.p0_e1 L N (f113 L N m) (fun a0 => κ (.tv i64 a0)) z30 := by kernel_rfl
theorem f113.p0_r_eq {R : Type} (L N m : Nat) (κ : AV → Option R) (z32 : Int) (z33 : Int) :
    (contAt (E113 L N m) (evCallI (E113 L N m) 0 1000) 1000 113 60 1 (codeOf Try.f113) (finK (E113 L N m) 1000 Try.f113 (finC (.one i64) κ))) .ret (f113.T0_r z32 z33) (f113.H0_r z32 z33)
    = f113.p0_r L N (f113 L N m) (fun a0 => κ (.tv i64 a0)) z32 z33 := by kernel_rfl
theorem f113.b_eq {R : Type} (L N m : Nat) (κ : AV → Option R) (x0 : Tree) :
    evBody (E113 L N m) (evCallI (E113 L N m) 0 1000) 1000 113 Try.f113 [(.tv (.st 1) x0)] [] [] (finC (.one i64) κ)
    = f113.b L N (f113 L N m) (fun a0 => κ (.tv i64 a0)) x0 := by
  refine Eq.trans (b := f113.b' L N (f113 L N m) (fun a0 => κ (.tv i64 a0)) (fun s24 s25 s26 s27 s28 s29 => evLp (E113 L N m) (evCallI (E113 L N m) 0 1000) 1000 113 60 1 f113.c0 (contAt (E113 L N m) (evCallI (E113 L N m) 0 1000) 1000 113 60 1 (codeOf Try.f113) (finK (E113 L N m) 1000 Try.f113 (finC (.one i64) κ))) L (f113.T0 s24 s25 s26 s27 s28 s29) (f113.H0 s24 s25 s26 s27 s28 s29)) x0) (by kernel_rfl) ?_
  unfold f113.b
  simp only [f113.l0_eq, f113.p0_e1_eq, f113.p0_r_eq]
theorem f113.ok (L N m : Nat) (hΦ : TellsOk Try.prog (Φ113s L N m)) : EntOk Try.prog 113 (f113.ent L N (m + 1)) := by
  intro args vw site h
  unfold f113.ent
  split
  · rename_i d ha
    intro y hy hs
    refine call_ro (dep := 1000) (E := (E113 L N m)) (rs := (.one i64)) (κ := unR (.one i64)) (sound_of hΦ) okP (callI_sound (sound_of hΦ) okP 0 1000) (f := Try.f113) rfl hs ha ?_ (fun _ h => unR_some h) rfl site
    exact (f113.b_eq L N m (unR (.one i64)) d.1).trans (Eq.trans (b := f113.b L N (f113 L N m) some d.1) (by kernel_rfl) hy)
  · intro y hy
    cases hy
theorem Φ113s_ok (L N : Nat) : ∀ m, TellsOk Try.prog (Φ113s L N m) := by
  intro m
  induction m with
  | zero => exact (addT_ok (Φ114_ok L N) (fun args vw site h => by unfold f113.ent; split <;> (intro y hy; cases hy)))
  | succ m ih => exact (addT_ok (Φ114_ok L N) (f113.ok L N m ih))
def Φ113 (L N : Nat) : Tells := (addT (Φ114 L N) 113 (f113.ent L N N))
theorem Φ113_ok (L N : Nat) : TellsOk Try.prog (Φ113 L N) := Φ113s_ok L N N
def f115.b' {R : Type} (L N : Nat) (k : Bool → Option R) (x0 : Tree) : Option R :=
  (f113 L N N (Tree.mk x0.op x0.n x0.parts)).bind fun y0 =>
  (f49 L N y0 (1 : Int) (24 : Int)).bind fun y1 =>
  k y1
def f115.b {R : Type} (L N : Nat) (k : Bool → Option R) (x0 : Tree) : Option R :=
  f115.b' L N k x0
def f115 (L N : Nat) (x0 : Tree) : Option (Bool) := f115.b L N some x0
def f115.ent (L N : Nat) (args : List AV) (vw : View) (site : Nat) : Ans := match roD [(.st 1)] vw args with
  | some d => ⟨Bool, f115 L N d.1, fun y => ((.tv .bool y), [], [])⟩
  | none => Ans.no
noncomputable def E115 (L N : Nat) : Env := { P := Try.prog, ty := tyOf, Φ := (Φ113 L N), inl := inlT, live := lives, liveX := livesX, L := L, dp := none, prom := promT, heal := healT, ren := renT }
theorem f115.b_eq {R : Type} (L N : Nat) (κ : AV → Option R) (x0 : Tree) :
    evBody (E115 L N) (evCallI (E115 L N) 0 1000) 1000 115 Try.f115 [(.tv (.st 1) x0)] [] [] (finC (.one .bool) κ)
    = f115.b L N (fun a0 => κ (.tv .bool a0)) x0 := by kernel_rfl
theorem f115.ok (L N : Nat) (hΦ : TellsOk Try.prog ((Φ113 L N))) : EntOk Try.prog 115 (f115.ent L N) := by
  intro args vw site h
  unfold f115.ent
  split
  · rename_i d ha
    intro y hy hs
    refine call_ro (dep := 1000) (E := (E115 L N)) (rs := (.one .bool)) (κ := unR (.one .bool)) (sound_of hΦ) okP (callI_sound (sound_of hΦ) okP 0 1000) (f := Try.f115) rfl hs ha ?_ (fun _ h => unR_some h) rfl site
    exact (f115.b_eq L N (unR (.one .bool)) d.1).trans (Eq.trans (b := f115.b L N some d.1) (by kernel_rfl) hy)
  · intro y hy
    cases hy
def Φ115 (L N : Nat) : Tells := (addT (Φ113 L N) 115 (f115.ent L N))
theorem Φ115_ok (L N : Nat) : TellsOk Try.prog (Φ115 L N) := addT_ok (Φ113_ok L N) (f115.ok L N (Φ113_ok L N))
def f110.b' {R : Type} (L N : Nat) (k : Bool → Option R) (x0 : Tree) (x1 : Int) : Option R :=
  (f115 L N (Tree.mk x0.op x0.n x0.parts)).bind fun y0 =>
  bif y0 then
    (f49 L N x1 (0 : Int) (3 : Int)).bind fun y1 =>
    bif y1 then
      (f114 L N N (Tree.mk x0.op x0.n x0.parts) false).bind fun y2 =>
      k (decide (y2 < x1))
    else k false
  else k false
def f110.b {R : Type} (L N : Nat) (k : Bool → Option R) (x0 : Tree) (x1 : Int) : Option R :=
  f110.b' L N k x0 x1
def f110 (L N : Nat) (x0 : Tree) (x1 : Int) : Option (Bool) := f110.b L N some x0 x1
def f110.ent (L N : Nat) (args : List AV) (vw : View) (site : Nat) : Ans := match roD [(.st 1), i64] vw args with
  | some d => ⟨Bool, f110 L N d.1 d.2.1, fun y => ((.tv .bool y), [], [])⟩
  | none => Ans.no
noncomputable def E110 (L N : Nat) : Env := { P := Try.prog, ty := tyOf, Φ := (Φ115 L N), inl := inlT, live := lives, liveX := livesX, L := L, dp := none, prom := promT, heal := healT, ren := renT }
theorem f110.b_eq {R : Type} (L N : Nat) (κ : AV → Option R) (x0 : Tree) (x1 : Int) :
    evBody (E110 L N) (evCallI (E110 L N) 0 1000) 1000 110 Try.f110 [(.tv (.st 1) x0), (.tv i64 x1)] [] [] (finC (.one .bool) κ)
    = f110.b L N (fun a0 => κ (.tv .bool a0)) x0 x1 := by kernel_rfl
theorem f110.ok (L N : Nat) (hΦ : TellsOk Try.prog ((Φ115 L N))) : EntOk Try.prog 110 (f110.ent L N) := by
  intro args vw site h
  unfold f110.ent
  split
  · rename_i d ha
    intro y hy hs
    refine call_ro (dep := 1000) (E := (E110 L N)) (rs := (.one .bool)) (κ := unR (.one .bool)) (sound_of hΦ) okP (callI_sound (sound_of hΦ) okP 0 1000) (f := Try.f110) rfl hs ha ?_ (fun _ h => unR_some h) rfl site
    exact (f110.b_eq L N (unR (.one .bool)) d.1 d.2.1).trans (Eq.trans (b := f110.b L N some d.1 d.2.1) (by kernel_rfl) hy)
  · intro y hy
    cases hy
def Φ110 (L N : Nat) : Tells := (addT (Φ115 L N) 110 (f110.ent L N))
theorem Φ110_ok (L N : Nat) : TellsOk Try.prog (Φ110 L N) := addT_ok (Φ115_ok L N) (f110.ok L N (Φ115_ok L N))
def f109.s0' {R : Type} (L N : Nat) (k0_e0 : LT → Option R) (k0_r : LT → Bool → Option R) (rec0 : LT → Int → Option R) (s0 : LT) (s1 : Int) : Option R :=
  bif (decide (s1 < (s0.length : Int))) then
    bif (decide (0 ≤ s1) && decide (s1 < (s0.length : Int))) then
      (f110 L N (listAt s0 (Ty.dflt (.st 1)) s1.toNat) (s0.length : Int)).bind fun y3 =>
      bif (!y3) then
        k0_r s0 false
      else bif (decide (0 ≤ s1) && decide (s1 < (s0.length : Int))) then
        (f114 L N N (listAt s0 (Ty.dflt (.st 1)) s1.toNat) true).bind fun y4 =>
        bif (decide (y4 ≥ (0 : Int))) then
          k0_r s0 false
        else rec0 s0 (wi (s1 + (1 : Int)))
      else none
    else none
  else k0_e0 s0
def f109.s0 {R : Type} (L N : Nat) (k0_e0 : LT → Option R) (k0_r : LT → Bool → Option R) (rec0 : LT → Int → Option R) (s0 : LT) (s1 : Int) : Option R :=
  f109.s0' L N k0_e0 k0_r rec0 s0 s1
def f109.l0 {R : Type} (L N : Nat) (k0_e0 : LT → Option R) (k0_r : LT → Bool → Option R) : Nat → LT → Int → Option R
  | 0, _, _ => none
  | n + 1, s0, s1 => f109.s0 L N k0_e0 k0_r (f109.l0 L N k0_e0 k0_r n) s0 s1
def f109.T0 (s0 : LT) (s1 : Int) : T := mkT 29 [(0, (.tv (.sl (.st 1)) s0)), (3, (.tv i64 s1))]
def f109.H0 (s0 : LT) (s1 : Int) : H := []
def f109.T0_e0 (z2 : LT) : T := mkT 29 [(0, (.tv (.sl (.st 1)) z2))]
def f109.H0_e0 (z2 : LT) : H := []
def f109.T0_r (z8 : LT) (z9 : Bool) : T := mkT 29 [(0, (.tv (.sl (.st 1)) z8)), (2, (.tv .bool z9))]
def f109.H0_r (z8 : LT) (z9 : Bool) : H := []
def f109.p0_e0' {R : Type} (L N : Nat) (k : Bool → Option R) (z2 : LT) : Option R :=
  k (decide ((z2.length : Int) ≤ (3 : Int)))
def f109.p0_e0 {R : Type} (L N : Nat) (k : Bool → Option R) (z2 : LT) : Option R :=
  f109.p0_e0' L N k z2
def f109.p0_r' {R : Type} (L N : Nat) (k : Bool → Option R) (z8 : LT) (z9 : Bool) : Option R :=
  k z9
def f109.p0_r {R : Type} (L N : Nat) (k : Bool → Option R) (z8 : LT) (z9 : Bool) : Option R :=
  f109.p0_r' L N k z8 z9
def f109.b' {R : Type} (L N : Nat) (k : Bool → Option R) (w0 : LT → Int → Option R) (x0 : LT) : Option R :=
  w0 x0 (0 : Int)
def f109.b {R : Type} (L N : Nat) (k : Bool → Option R) (x0 : LT) : Option R :=
  f109.b' L N k (fun s0 s1 => f109.l0 L N (fun z2 => f109.p0_e0 L N k z2) (fun z8 z9 => f109.p0_r L N k z8 z9) L s0 s1) x0
def f109 (L N : Nat) (x0 : LT) : Option (Bool) := f109.b L N some x0
def f109.ent (L N : Nat) (args : List AV) (vw : View) (site : Nat) : Ans := match roD [(.sl (.st 1))] vw args with
  | some d => ⟨Bool, f109 L N d.1, fun y => ((.tv .bool y), [], [])⟩
  | none => Ans.no
noncomputable def E109 (L N : Nat) : Env := { P := Try.prog, ty := tyOf, Φ := (Φ110 L N), inl := inlT, live := lives, liveX := livesX, L := L, dp := none, prom := promT, heal := healT, ren := renT }
noncomputable def f109.c0 : Code := loopAt 0 (codeOf Try.f109)
theorem f109.s0_eq {R : Type} (L N : Nat) (κ : Ex → T → H → Option R) (rec : T → H → Option R) (s0 : LT) (s1 : Int) :
    evRd (E109 L N) (evCallI (E109 L N) 0 1000) 1000 109 29 0 f109.c0 κ rec (f109.T0 s0 s1) (f109.H0 s0 s1)
    = f109.s0 L N (fun z2 => κ (.exit 0) (f109.T0_e0 z2) (f109.H0_e0 z2)) (fun z8 z9 => κ .ret (f109.T0_r z8 z9) (f109.H0_r z8 z9)) (fun s0 s1 => rec (f109.T0 s0 s1) (f109.H0 s0 s1)) s0 s1 := by kernel_rfl
theorem f109.l0_eq {R : Type} (L N : Nat) (κ : Ex → T → H → Option R) : ∀ (n : Nat) (s0 : LT) (s1 : Int),
    evLp (E109 L N) (evCallI (E109 L N) 0 1000) 1000 109 29 0 f109.c0 κ n (f109.T0 s0 s1) (f109.H0 s0 s1)
    = f109.l0 L N (fun z2 => κ (.exit 0) (f109.T0_e0 z2) (f109.H0_e0 z2)) (fun z8 z9 => κ .ret (f109.T0_r z8 z9) (f109.H0_r z8 z9)) n s0 s1 := by
  intro n
  induction n with
  | zero => intros; rfl
  | succ n ih =>
    intro s0 s1
    rw [evLp_succ, f109.s0_eq]
    simp only [ih]
    rfl
theorem f109.p0_e0_eq {R : Type} (L N : Nat) (κ : AV → Option R) (z2 : LT) :
    (contAt (E109 L N) (evCallI (E109 L N) 0 1000) 1000 109 29 0 (codeOf Try.f109) (finK (E109 L N) 1000 Try.f109 (finC (.one .bool) κ))) (.exit 0) (f109.T0_e0 z2) (f109.H0_e0 z2)
    = f109.p0_e0 L N (fun a0 => κ (.tv .bool a0)) z2 := by kernel_rfl
theorem f109.p0_r_eq {R : Type} (L N : Nat) (κ : AV → Option R) (z8 : LT) (z9 : Bool) :
    (contAt (E109 L N) (evCallI (E109 L N) 0 1000) 1000 109 29 0 (codeOf Try.f109) (finK (E109 L N) 1000 Try.f109 (finC (.one .bool) κ))) .ret (f109.T0_r z8 z9) (f109.H0_r z8 z9)
    = f109.p0_r L N (fun a0 => κ (.tv .bool a0)) z8 z9 := by kernel_rfl
theorem f109.b_eq {R : Type} (L N : Nat) (κ : AV → Option R) (x0 : LT) :
    evBody (E109 L N) (evCallI (E109 L N) 0 1000) 1000 109 Try.f109 [(.tv (.sl (.st 1)) x0)] [] [] (finC (.one .bool) κ)
    = f109.b L N (fun a0 => κ (.tv .bool a0)) x0 := by
  refine Eq.trans (b := f109.b' L N (fun a0 => κ (.tv .bool a0)) (fun s0 s1 => evLp (E109 L N) (evCallI (E109 L N) 0 1000) 1000 109 29 0 f109.c0 (contAt (E109 L N) (evCallI (E109 L N) 0 1000) 1000 109 29 0 (codeOf Try.f109) (finK (E109 L N) 1000 Try.f109 (finC (.one .bool) κ))) L (f109.T0 s0 s1) (f109.H0 s0 s1)) x0) (by kernel_rfl) ?_
  unfold f109.b
  simp only [f109.l0_eq, f109.p0_e0_eq, f109.p0_r_eq]
theorem f109.ok (L N : Nat) (hΦ : TellsOk Try.prog ((Φ110 L N))) : EntOk Try.prog 109 (f109.ent L N) := by
  intro args vw site h
  unfold f109.ent
  split
  · rename_i d ha
    intro y hy hs
    refine call_ro (dep := 1000) (E := (E109 L N)) (rs := (.one .bool)) (κ := unR (.one .bool)) (sound_of hΦ) okP (callI_sound (sound_of hΦ) okP 0 1000) (f := Try.f109) rfl hs ha ?_ (fun _ h => unR_some h) rfl site
    exact (f109.b_eq L N (unR (.one .bool)) d.1).trans (Eq.trans (b := f109.b L N some d.1) (by kernel_rfl) hy)
  · intro y hy
    cases hy
def Φ109 (L N : Nat) : Tells := (addT (Φ110 L N) 109 (f109.ent L N))
theorem Φ109_ok (L N : Nat) : TellsOk Try.prog (Φ109 L N) := addT_ok (Φ110_ok L N) (f109.ok L N (Φ110_ok L N))
def f104.b' {R : Type} (L N : Nat) (k : Bool → Option R) (x0 : Tree) (x1 : LT) : Option R :=
  (f109 L N x1).bind fun y0 =>
  bif y0 then
    (f110 L N (Tree.mk x0.op x0.n x0.parts) (x1.length : Int)).bind fun y1 =>
    k y1
  else k false
def f104.b {R : Type} (L N : Nat) (k : Bool → Option R) (x0 : Tree) (x1 : LT) : Option R :=
  f104.b' L N k x0 x1
def f104 (L N : Nat) (x0 : Tree) (x1 : LT) : Option (Bool) := f104.b L N some x0 x1
def f104.ent (L N : Nat) (args : List AV) (vw : View) (site : Nat) : Ans := match roD [(.st 1), (.sl (.st 1))] vw args with
  | some d => ⟨Bool, f104 L N d.1 d.2.1, fun y => ((.tv .bool y), [], [])⟩
  | none => Ans.no
noncomputable def E104 (L N : Nat) : Env := { P := Try.prog, ty := tyOf, Φ := (Φ109 L N), inl := inlT, live := lives, liveX := livesX, L := L, dp := none, prom := promT, heal := healT, ren := renT }
theorem f104.b_eq {R : Type} (L N : Nat) (κ : AV → Option R) (x0 : Tree) (x1 : LT) :
    evBody (E104 L N) (evCallI (E104 L N) 0 1000) 1000 104 Try.f104 [(.tv (.st 1) x0), (.tv (.sl (.st 1)) x1)] [] [] (finC (.one .bool) κ)
    = f104.b L N (fun a0 => κ (.tv .bool a0)) x0 x1 := by kernel_rfl
theorem f104.ok (L N : Nat) (hΦ : TellsOk Try.prog ((Φ109 L N))) : EntOk Try.prog 104 (f104.ent L N) := by
  intro args vw site h
  unfold f104.ent
  split
  · rename_i d ha
    intro y hy hs
    refine call_ro (dep := 1000) (E := (E104 L N)) (rs := (.one .bool)) (κ := unR (.one .bool)) (sound_of hΦ) okP (callI_sound (sound_of hΦ) okP 0 1000) (f := Try.f104) rfl hs ha ?_ (fun _ h => unR_some h) rfl site
    exact (f104.b_eq L N (unR (.one .bool)) d.1 d.2.1).trans (Eq.trans (b := f104.b L N some d.1 d.2.1) (by kernel_rfl) hy)
  · intro y hy
    cases hy
def Φ104 (L N : Nat) : Tells := (addT (Φ109 L N) 104 (f104.ent L N))
theorem Φ104_ok (L N : Nat) : TellsOk Try.prog (Φ104 L N) := addT_ok (Φ109_ok L N) (f104.ok L N (Φ109_ok L N))
def f106.s1' {R : Type} (L N : Nat) (k1_e2 : LM → Int → Int → LM → Option R) (rec1 : LM → Int → Int → LM → Option R) (s4 : LM) (s5 : Int) (s6 : Int) (s7 : LM) : Option R :=
  bif (decide (s6 > (0 : Int))) then
    bif (decide (0 ≤ s5) && decide (s5 < (s4.length : Int))) then
      bif (decide (0 ≤ (wi (s6 - (1 : Int)))) && decide ((wi (s6 - (1 : Int))) < (s7.length : Int))) then
        (f79 L N (listAt s4 (Ty.dflt (.st 0)) s5.toNat) (listAt s7 (Ty.dflt (.st 0)) (wi (s6 - (1 : Int))).toNat)).bind fun y8 =>
        bif y8 then
          rec1 s4 s5 (wi (s6 - (1 : Int))) s7
        else k1_e2 s4 s5 s6 s7
      else none
    else none
  else k1_e2 s4 s5 s6 s7
def f106.s1 {R : Type} (L N : Nat) (k1_e2 : LM → Int → Int → LM → Option R) (rec1 : LM → Int → Int → LM → Option R) (s4 : LM) (s5 : Int) (s6 : Int) (s7 : LM) : Option R :=
  f106.s1' L N k1_e2 rec1 s4 s5 s6 s7
def f106.l1 {R : Type} (L N : Nat) (k1_e2 : LM → Int → Int → LM → Option R) : Nat → LM → Int → Int → LM → Option R
  | 0, _, _, _, _ => none
  | n + 1, s4, s5, s6, s7 => f106.s1 L N k1_e2 (f106.l1 L N k1_e2 n) s4 s5 s6 s7
def f106.T1 (s4 : LM) (s5 : Int) (s6 : Int) (s7 : LM) : T := mkT 74 [(0, (.tv (.sl (.st 0)) s4)), (3, (.row 1007)), (4, (.tv i64 s5)), (5, (.tv i64 s6))]
def f106.H1 (s4 : LM) (s5 : Int) (s6 : Int) (s7 : LM) : H := [(1007, (.row 64 (.st 0) s7))]
def f106.T1_e2 (z14 : LM) (z15 : Int) (z16 : Int) (z17 : LM) : T := mkT 74 [(0, (.tv (.sl (.st 0)) z14)), (3, (.row 1007)), (4, (.tv i64 z15)), (5, (.tv i64 z16))]
def f106.H1_e2 (z14 : LM) (z15 : Int) (z16 : Int) (z17 : LM) : H := [(1007, (.row 64 (.st 0) z17))]
def f106.s2' {R : Type} (L N : Nat) (k2_e4 : LM → Int → Int → LM → Option R) (rec2 : LM → Int → Int → Int → LM → Option R) (s31 : LM) (s32 : Int) (s33 : Int) (s34 : Int) (s35 : LM) : Option R :=
  bif (decide (s34 > s33)) then
    bif (decide (0 ≤ (wi (s34 - (1 : Int)))) && decide ((wi (s34 - (1 : Int))) < (s35.length : Int))) then
      bif (decide (0 ≤ s34) && decide (s34 < (s35.length : Int))) then
        rec2 s31 s32 s33 (wi (s34 - (1 : Int))) (s35.set s34.toNat (listAt s35 (Ty.dflt (.st 0)) (wi (s34 - (1 : Int))).toNat))
      else none
    else none
  else k2_e4 s31 s32 s33 s35
def f106.s2 {R : Type} (L N : Nat) (k2_e4 : LM → Int → Int → LM → Option R) (rec2 : LM → Int → Int → Int → LM → Option R) (s31 : LM) (s32 : Int) (s33 : Int) (s34 : Int) (s35 : LM) : Option R :=
  f106.s2' L N k2_e4 rec2 s31 s32 s33 s34 s35
def f106.l2 {R : Type} (L N : Nat) (k2_e4 : LM → Int → Int → LM → Option R) : Nat → LM → Int → Int → Int → LM → Option R
  | 0, _, _, _, _, _ => none
  | n + 1, s31, s32, s33, s34, s35 => f106.s2 L N k2_e4 (f106.l2 L N k2_e4 n) s31 s32 s33 s34 s35
def f106.T2 (s31 : LM) (s32 : Int) (s33 : Int) (s34 : Int) (s35 : LM) : T := mkT 74 [(0, (.tv (.sl (.st 0)) s31)), (3, (.row 1007)), (4, (.tv i64 s32)), (5, (.tv i64 s33)), (6, (.tv i64 s34))]
def f106.H2 (s31 : LM) (s32 : Int) (s33 : Int) (s34 : Int) (s35 : LM) : H := [(1007, (.row 64 (.st 0) s35))]
def f106.T2_e4 (z36 : LM) (z37 : Int) (z38 : Int) (z39 : LM) : T := mkT 74 [(0, (.tv (.sl (.st 0)) z36)), (3, (.row 1007)), (4, (.tv i64 z37)), (5, (.tv i64 z38))]
def f106.H2_e4 (z36 : LM) (z37 : Int) (z38 : Int) (z39 : LM) : H := [(1007, (.row 64 (.st 0) z39))]
def f106.p2_e4' {R : Type} (L N : Nat) (k0_e0 : LM → Option R) (rec0 : LM → Int → LM → Option R) (z36 : LM) (z37 : Int) (z38 : Int) (z39 : LM) : Option R :=
  bif (decide (0 ≤ z37) && decide (z37 < (z36.length : Int))) then
    bif (decide (0 ≤ z38) && decide (z38 < (z39.length : Int))) then
      rec0 z36 (wi (z37 + (1 : Int))) (z39.set z38.toNat (listAt z36 (Ty.dflt (.st 0)) z37.toNat))
    else none
  else none
def f106.p2_e4 {R : Type} (L N : Nat) (k0_e0 : LM → Option R) (rec0 : LM → Int → LM → Option R) (z36 : LM) (z37 : Int) (z38 : Int) (z39 : LM) : Option R :=
  f106.p2_e4' L N k0_e0 rec0 z36 z37 z38 z39
def f106.j0' {R : Type} (L N : Nat) (k0_e0 : LM → Option R) (rec0 : LM → Int → LM → Option R) (w2 : LM → Int → Int → Int → LM → Option R) (v27 : LM) (v28 : Int) (v29 : Int) (v30 : LM) : Option R :=
  bif (decide (v30.length + ([(Move.mk (0 : Int) (0 : Int))] : LM).length ≤ lim)) then
    w2 v27 v28 v29 (wi (((v30 ++ ([(Move.mk (0 : Int) (0 : Int))] : LM)).length : Int) - (1 : Int))) (v30 ++ ([(Move.mk (0 : Int) (0 : Int))] : LM))
  else none
def f106.p1_e2' {R : Type} (L N : Nat) (k0_e0 : LM → Option R) (rec0 : LM → Int → LM → Option R) (w2 : LM → Int → Int → Int → LM → Option R) (z14 : LM) (z15 : Int) (z16 : Int) (z17 : LM) : Option R :=
  bif (decide (z16 > (0 : Int))) then
    bif (decide (0 ≤ (wi (z16 - (1 : Int)))) && decide ((wi (z16 - (1 : Int))) < (z17.length : Int))) then
      bif (decide (0 ≤ z15) && decide (z15 < (z14.length : Int))) then
        bif (Move.eqb (listAt z17 (Ty.dflt (.st 0)) (wi (z16 - (1 : Int))).toNat) (listAt z14 (Ty.dflt (.st 0)) z15.toNat)) then
          rec0 z14 (wi (z15 + (1 : Int))) z17
        else f106.j0' L N k0_e0 rec0 w2 z14 z15 z16 z17
      else none
    else none
  else f106.j0' L N k0_e0 rec0 w2 z14 z15 z16 z17
def f106.p1_e2 {R : Type} (L N : Nat) (k0_e0 : LM → Option R) (rec0 : LM → Int → LM → Option R) (z14 : LM) (z15 : Int) (z16 : Int) (z17 : LM) : Option R :=
  f106.p1_e2' L N k0_e0 rec0 (fun s31 s32 s33 s34 s35 => f106.l2 L N (fun z36 z37 z38 z39 => f106.p2_e4 L N k0_e0 rec0 z36 z37 z38 z39) L s31 s32 s33 s34 s35) z14 z15 z16 z17
def f106.s0' {R : Type} (L N : Nat) (k0_e0 : LM → Option R) (rec0 : LM → Int → LM → Option R) (w1 : LM → Int → Int → LM → Option R) (s0 : LM) (s1 : Int) (s2 : LM) : Option R :=
  bif (decide (s1 < (s0.length : Int))) then
    w1 s0 s1 (s2.length : Int) s2
  else k0_e0 s2
def f106.s0 {R : Type} (L N : Nat) (k0_e0 : LM → Option R) (rec0 : LM → Int → LM → Option R) (s0 : LM) (s1 : Int) (s2 : LM) : Option R :=
  f106.s0' L N k0_e0 rec0 (fun s4 s5 s6 s7 => f106.l1 L N (fun z14 z15 z16 z17 => f106.p1_e2 L N k0_e0 rec0 z14 z15 z16 z17) L s4 s5 s6 s7) s0 s1 s2
def f106.l0 {R : Type} (L N : Nat) (k0_e0 : LM → Option R) : Nat → LM → Int → LM → Option R
  | 0, _, _, _ => none
  | n + 1, s0, s1, s2 => f106.s0 L N k0_e0 (f106.l0 L N k0_e0 n) s0 s1 s2
def f106.T0 (s0 : LM) (s1 : Int) (s2 : LM) : T := mkT 74 [(0, (.tv (.sl (.st 0)) s0)), (3, (.row 1007)), (4, (.tv i64 s1))]
def f106.H0 (s0 : LM) (s1 : Int) (s2 : LM) : H := [(1007, (.row 64 (.st 0) s2))]
def f106.T0_e0 (z3 : LM) : T := mkT 74 [(3, (.row 1007))]
def f106.H0_e0 (z3 : LM) : H := [(1007, (.row 64 (.st 0) z3))]
def f106.p0_e0' {R : Type} (L N : Nat) (k : LM → Option R) (z3 : LM) : Option R :=
  k z3
def f106.p0_e0 {R : Type} (L N : Nat) (k : LM → Option R) (z3 : LM) : Option R :=
  f106.p0_e0' L N k z3
def f106.b' {R : Type} (L N : Nat) (k : LM → Option R) (w0 : LM → Int → LM → Option R) (x0 : LM) : Option R :=
  w0 x0 (0 : Int) ([] : LM)
def f106.b {R : Type} (L N : Nat) (k : LM → Option R) (x0 : LM) : Option R :=
  f106.b' L N k (fun s0 s1 s2 => f106.l0 L N (fun z3 => f106.p0_e0 L N k z3) L s0 s1 s2) x0
def f106 (L N : Nat) (x0 : LM) : Option (LM) := f106.b L N some x0
def f106.ent (L N : Nat) (args : List AV) (vw : View) (site : Nat) : Ans := match roD [(.sl (.st 0))] vw args with
  | some d => ⟨LM, f106 L N d.1, fun y => (RN.av site .row (), [(site, some (mkO none 64 (.st 0) y))], [])⟩
  | none => Ans.no
noncomputable def E106 (L N : Nat) : Env := { P := Try.prog, ty := tyOf, Φ := (Φ104 L N), inl := inlT, live := lives, liveX := livesX, L := L, dp := none, prom := promT, heal := healT, ren := renT }
noncomputable def f106.c0 : Code := loopAt 0 (codeOf Try.f106)
noncomputable def f106.c1 : Code := loopAt 2 f106.c0
theorem f106.s1_eq {R : Type} (L N : Nat) (κ : Ex → T → H → Option R) (rec : T → H → Option R) (s4 : LM) (s5 : Int) (s6 : Int) (s7 : LM) :
    evRd (E106 L N) (evCallI (E106 L N) 0 1000) 1000 106 74 2 f106.c1 κ rec (f106.T1 s4 s5 s6 s7) (f106.H1 s4 s5 s6 s7)
    = f106.s1 L N (fun z14 z15 z16 z17 => κ (.exit 2) (f106.T1_e2 z14 z15 z16 z17) (f106.H1_e2 z14 z15 z16 z17)) (fun s4 s5 s6 s7 => rec (f106.T1 s4 s5 s6 s7) (f106.H1 s4 s5 s6 s7)) s4 s5 s6 s7 := by kernel_rfl
theorem f106.l1_eq {R : Type} (L N : Nat) (κ : Ex → T → H → Option R) : ∀ (n : Nat) (s4 : LM) (s5 : Int) (s6 : Int) (s7 : LM),
    evLp (E106 L N) (evCallI (E106 L N) 0 1000) 1000 106 74 2 f106.c1 κ n (f106.T1 s4 s5 s6 s7) (f106.H1 s4 s5 s6 s7)
    = f106.l1 L N (fun z14 z15 z16 z17 => κ (.exit 2) (f106.T1_e2 z14 z15 z16 z17) (f106.H1_e2 z14 z15 z16 z17)) n s4 s5 s6 s7 := by
  intro n
  induction n with
  | zero => intros; rfl
  | succ n ih =>
    intro s4 s5 s6 s7
    rw [evLp_succ, f106.s1_eq]
    simp only [ih]
    rfl
noncomputable def f106.c2 : Code := loopAt 4 f106.c0
theorem f106.s2_eq {R : Type} (L N : Nat) (κ : Ex → T → H → Option R) (rec : T → H → Option R) (s31 : LM) (s32 : Int) (s33 : Int) (s34 : Int) (s35 : LM) :
    evRd (E106 L N) (evCallI (E106 L N) 0 1000) 1000 106 74 4 f106.c2 κ rec (f106.T2 s31 s32 s33 s34 s35) (f106.H2 s31 s32 s33 s34 s35)
    = f106.s2 L N (fun z36 z37 z38 z39 => κ (.exit 4) (f106.T2_e4 z36 z37 z38 z39) (f106.H2_e4 z36 z37 z38 z39)) (fun s31 s32 s33 s34 s35 => rec (f106.T2 s31 s32 s33 s34 s35) (f106.H2 s31 s32 s33 s34 s35)) s31 s32 s33 s34 s35 := by kernel_rfl
theorem f106.l2_eq {R : Type} (L N : Nat) (κ : Ex → T → H → Option R) : ∀ (n : Nat) (s31 : LM) (s32 : Int) (s33 : Int) (s34 : Int) (s35 : LM),
    evLp (E106 L N) (evCallI (E106 L N) 0 1000) 1000 106 74 4 f106.c2 κ n (f106.T2 s31 s32 s33 s34 s35) (f106.H2 s31 s32 s33 s34 s35)
    = f106.l2 L N (fun z36 z37 z38 z39 => κ (.exit 4) (f106.T2_e4 z36 z37 z38 z39) (f106.H2_e4 z36 z37 z38 z39)) n s31 s32 s33 s34 s35 := by
  intro n
  induction n with
  | zero => intros; rfl
  | succ n ih =>
    intro s31 s32 s33 s34 s35
    rw [evLp_succ, f106.s2_eq]
    simp only [ih]
    rfl
theorem f106.p2_e4_eq {R : Type} (L N : Nat) (κ : Ex → T → H → Option R) (rec : T → H → Option R) (z36 : LM) (z37 : Int) (z38 : Int) (z39 : LM) :
    (contAt (E106 L N) (evCallI (E106 L N) 0 1000) 1000 106 74 4 f106.c0 (rdK (E106 L N) 1000 106 74 0 κ rec)) (.exit 4) (f106.T2_e4 z36 z37 z38 z39) (f106.H2_e4 z36 z37 z38 z39)
    = f106.p2_e4 L N (fun z3 => κ (.exit 0) (f106.T0_e0 z3) (f106.H0_e0 z3)) (fun s0 s1 s2 => rec (f106.T0 s0 s1 s2) (f106.H0 s0 s1 s2)) z36 z37 z38 z39 := by kernel_rfl
theorem f106.p1_e2_eq {R : Type} (L N : Nat) (κ : Ex → T → H → Option R) (rec : T → H → Option R) (z14 : LM) (z15 : Int) (z16 : Int) (z17 : LM) :
    (contAt (E106 L N) (evCallI (E106 L N) 0 1000) 1000 106 74 2 f106.c0 (rdK (E106 L N) 1000 106 74 0 κ rec)) (.exit 2) (f106.T1_e2 z14 z15 z16 z17) (f106.H1_e2 z14 z15 z16 z17)
    = f106.p1_e2 L N (fun z3 => κ (.exit 0) (f106.T0_e0 z3) (f106.H0_e0 z3)) (fun s0 s1 s2 => rec (f106.T0 s0 s1 s2) (f106.H0 s0 s1 s2)) z14 z15 z16 z17 := by
  refine Eq.trans (b := f106.p1_e2' L N (fun z3 => κ (.exit 0) (f106.T0_e0 z3) (f106.H0_e0 z3)) (fun s0 s1 s2 => rec (f106.T0 s0 s1 s2) (f106.H0 s0 s1 s2)) (fun s31 s32 s33 s34 s35 => evLp (E106 L N) (evCallI (E106 L N) 0 1000) 1000 106 74 4 f106.c2 (contAt (E106 L N) (evCallI (E106 L N) 0 1000) 1000 106 74 4 f106.c0 (rdK (E106 L N) 1000 106 74 0 κ rec)) L (f106.T2 s31 s32 s33 s34 s35) (f106.H2 s31 s32 s33 s34 s35)) z14 z15 z16 z17) (by kernel_rfl) ?_
  unfold f106.p1_e2
  simp only [f106.l2_eq, f106.p2_e4_eq]
theorem f106.s0_eq {R : Type} (L N : Nat) (κ : Ex → T → H → Option R) (rec : T → H → Option R) (s0 : LM) (s1 : Int) (s2 : LM) :
    evRd (E106 L N) (evCallI (E106 L N) 0 1000) 1000 106 74 0 f106.c0 κ rec (f106.T0 s0 s1 s2) (f106.H0 s0 s1 s2)
    = f106.s0 L N (fun z3 => κ (.exit 0) (f106.T0_e0 z3) (f106.H0_e0 z3)) (fun s0 s1 s2 => rec (f106.T0 s0 s1 s2) (f106.H0 s0 s1 s2)) s0 s1 s2 := by
  refine Eq.trans (b := f106.s0' L N (fun z3 => κ (.exit 0) (f106.T0_e0 z3) (f106.H0_e0 z3)) (fun s0 s1 s2 => rec (f106.T0 s0 s1 s2) (f106.H0 s0 s1 s2)) (fun s4 s5 s6 s7 => evLp (E106 L N) (evCallI (E106 L N) 0 1000) 1000 106 74 2 f106.c1 (contAt (E106 L N) (evCallI (E106 L N) 0 1000) 1000 106 74 2 f106.c0 (rdK (E106 L N) 1000 106 74 0 κ rec)) L (f106.T1 s4 s5 s6 s7) (f106.H1 s4 s5 s6 s7)) s0 s1 s2) (by kernel_rfl) ?_
  unfold f106.s0
  simp only [f106.l1_eq, f106.p1_e2_eq]
theorem f106.l0_eq {R : Type} (L N : Nat) (κ : Ex → T → H → Option R) : ∀ (n : Nat) (s0 : LM) (s1 : Int) (s2 : LM),
    evLp (E106 L N) (evCallI (E106 L N) 0 1000) 1000 106 74 0 f106.c0 κ n (f106.T0 s0 s1 s2) (f106.H0 s0 s1 s2)
    = f106.l0 L N (fun z3 => κ (.exit 0) (f106.T0_e0 z3) (f106.H0_e0 z3)) n s0 s1 s2 := by
  intro n
  induction n with
  | zero => intros; rfl
  | succ n ih =>
    intro s0 s1 s2
    rw [evLp_succ, f106.s0_eq]
    simp only [ih]
    rfl
theorem f106.p0_e0_eq {R : Type} (L N : Nat) (κ : RN.Den .row → List Move → Option R) (z3 : LM) :
    (contAt (E106 L N) (evCallI (E106 L N) 0 1000) 1000 106 74 0 (codeOf Try.f106) (finK (E106 L N) 1000 Try.f106 (finN .row none 64 (.st 0) κ))) (.exit 0) (f106.T0_e0 z3) (f106.H0_e0 z3)
    = f106.p0_e0 L N (fun a0 => κ () a0) z3 := by kernel_rfl
theorem f106.b_eq {R : Type} (L N : Nat) (κ : RN.Den .row → List Move → Option R) (x0 : LM) :
    evBody (E106 L N) (evCallI (E106 L N) 0 1000) 1000 106 Try.f106 [(.tv (.sl (.st 0)) x0)] [] [] (finN .row none 64 (.st 0) κ)
    = f106.b L N (fun a0 => κ () a0) x0 := by
  refine Eq.trans (b := f106.b' L N (fun a0 => κ () a0) (fun s0 s1 s2 => evLp (E106 L N) (evCallI (E106 L N) 0 1000) 1000 106 74 0 f106.c0 (contAt (E106 L N) (evCallI (E106 L N) 0 1000) 1000 106 74 0 (codeOf Try.f106) (finK (E106 L N) 1000 Try.f106 (finN .row none 64 (.st 0) κ))) L (f106.T0 s0 s1 s2) (f106.H0 s0 s1 s2)) x0) (by kernel_rfl) ?_
  unfold f106.b
  simp only [f106.l0_eq, f106.p0_e0_eq]
theorem f106.ok (L N : Nat) (hΦ : TellsOk Try.prog ((Φ104 L N))) : EntOk Try.prog 106 (f106.ent L N) := by
  intro args vw site h
  unfold f106.ent
  split
  · rename_i d ha
    intro y hy hs
    refine call_ron (y := y) (dep := 1000) (E := (E106 L N)) (ts := [(.sl (.st 0))]) (rn := .row) (q := none) (el := 64) (ty := (.st 0)) (d1 := ()) (xs := y) (κ := (fun d xs => some xs)) (sound_of hΦ) okP (callI_sound (sound_of hΦ) okP 0 1000) (f := Try.f106) rfl hs ha ?_ (fun _ _ h => by obtain rfl := Option.some.inj h; exact ⟨rfl, rfl⟩) rfl site
    exact (f106.b_eq L N (fun d xs => some xs) d.1).trans (Eq.trans (b := f106.b L N some d.1) (by kernel_rfl) hy)
  · intro y hy
    cases hy
def Φ106 (L N : Nat) : Tells := (addT (Φ104 L N) 106 (f106.ent L N))
theorem Φ106_ok (L N : Nat) : TellsOk Try.prog (Φ106 L N) := addT_ok (Φ104_ok L N) (f106.ok L N (Φ104_ok L N))
def f95.b' {R : Type} (L N : Nat) (k : Int → Option R) (x0 : Int) : Option R :=
  k (wi ((bif decide ((wi (0 - x0)) > x0) then (wi (0 - x0)) else x0) - (1 : Int)))
def f95.b {R : Type} (L N : Nat) (k : Int → Option R) (x0 : Int) : Option R :=
  f95.b' L N k x0
def f95 (L N : Nat) (x0 : Int) : Option (Int) := f95.b L N some x0
def f95.ent (L N : Nat) (args : List AV) (vw : View) (site : Nat) : Ans := match roD [i64] vw args with
  | some d => ⟨Int, f95 L N d.1, fun y => ((.tv i64 y), [], [])⟩
  | none => Ans.no
noncomputable def E95 (L N : Nat) : Env := { P := Try.prog, ty := tyOf, Φ := (Φ106 L N), inl := inlT, live := lives, liveX := livesX, L := L, dp := none, prom := promT, heal := healT, ren := renT }
theorem f95.b_eq {R : Type} (L N : Nat) (κ : AV → Option R) (x0 : Int) :
    evBody (E95 L N) (evCallI (E95 L N) 0 1000) 1000 95 Try.f95 [(.tv i64 x0)] [] [] (finC (.one i64) κ)
    = f95.b L N (fun a0 => κ (.tv i64 a0)) x0 := by kernel_rfl
theorem f95.ok (L N : Nat) (hΦ : TellsOk Try.prog ((Φ106 L N))) : EntOk Try.prog 95 (f95.ent L N) := by
  intro args vw site h
  unfold f95.ent
  split
  · rename_i d ha
    intro y hy hs
    refine call_ro (dep := 1000) (E := (E95 L N)) (rs := (.one i64)) (κ := unR (.one i64)) (sound_of hΦ) okP (callI_sound (sound_of hΦ) okP 0 1000) (f := Try.f95) rfl hs ha ?_ (fun _ h => unR_some h) rfl site
    exact (f95.b_eq L N (unR (.one i64)) d.1).trans (Eq.trans (b := f95.b L N some d.1) (by kernel_rfl) hy)
  · intro y hy
    cases hy
def Φ95 (L N : Nat) : Tells := (addT (Φ106 L N) 95 (f95.ent L N))
theorem Φ95_ok (L N : Nat) : TellsOk Try.prog (Φ95 L N) := addT_ok (Φ106_ok L N) (f95.ok L N (Φ106_ok L N))
def f77.b' {R : Type} (L N : Nat) (k : ByteArray → Option R) (x0 : Int) : Option R :=
  bif (x0 == (0 : Int)) then
    k (ByteArray.mk #[116, 97, 117])
  else bif (decide (x0 < (0 : Int))) then
    (f95 L N x0).bind fun y0 =>
    (f95 L N x0).bind fun y1 =>
    bif (slB y0 (wi (y1 + (1 : Int))) (ByteArray.mk #[97, 98, 99, 100]).size) then
      bif (decide ((ByteArray.mk #[33]).size + ((ByteArray.mk #[97, 98, 99, 100]).extract y0.toNat (wi (y1 + (1 : Int))).toNat).size ≤ 4611686018427387904)) then
        k ((ByteArray.mk #[33]) ++ ((ByteArray.mk #[97, 98, 99, 100]).extract y0.toNat (wi (y1 + (1 : Int))).toNat))
      else none
    else none
  else (f95 L N x0).bind fun y2 =>
  (f95 L N x0).bind fun y3 =>
  bif (slB y2 (wi (y3 + (1 : Int))) (ByteArray.mk #[97, 98, 99, 100]).size) then
    k ((ByteArray.mk #[97, 98, 99, 100]).extract y2.toNat (wi (y3 + (1 : Int))).toNat)
  else none
def f77.b {R : Type} (L N : Nat) (k : ByteArray → Option R) (x0 : Int) : Option R :=
  f77.b' L N k x0
def f77 (L N : Nat) (x0 : Int) : Option (ByteArray) := f77.b L N some x0
def f77.ent (L N : Nat) (args : List AV) (vw : View) (site : Nat) : Ans := match roD [i64] vw args with
  | some d => ⟨ByteArray, f77 L N d.1, fun y => ((.tv .str y), [], [])⟩
  | none => Ans.no
noncomputable def E77 (L N : Nat) : Env := { P := Try.prog, ty := tyOf, Φ := (Φ95 L N), inl := inlT, live := lives, liveX := livesX, L := L, dp := none, prom := promT, heal := healT, ren := renT }
theorem f77.b_eq {R : Type} (L N : Nat) (κ : AV → Option R) (x0 : Int) :
    evBody (E77 L N) (evCallI (E77 L N) 0 1000) 1000 77 Try.f77 [(.tv i64 x0)] [] [] (finC (.one .str) κ)
    = f77.b L N (fun a0 => κ (.tv .str a0)) x0 := by kernel_rfl
theorem f77.ok (L N : Nat) (hΦ : TellsOk Try.prog ((Φ95 L N))) : EntOk Try.prog 77 (f77.ent L N) := by
  intro args vw site h
  unfold f77.ent
  split
  · rename_i d ha
    intro y hy hs
    refine call_ro (dep := 1000) (E := (E77 L N)) (rs := (.one .str)) (κ := unR (.one .str)) (sound_of hΦ) okP (callI_sound (sound_of hΦ) okP 0 1000) (f := Try.f77) rfl hs ha ?_ (fun _ h => unR_some h) rfl site
    exact (f77.b_eq L N (unR (.one .str)) d.1).trans (Eq.trans (b := f77.b L N some d.1) (by kernel_rfl) hy)
  · intro y hy
    cases hy
def Φ77 (L N : Nat) : Tells := (addT (Φ95 L N) 77 (f77.ent L N))
theorem Φ77_ok (L N : Nat) : TellsOk Try.prog (Φ77 L N) := addT_ok (Φ95_ok L N) (f77.ok L N (Φ95_ok L N))
def f116.b' {R : Type} (L N : Nat) (self116 : Int → Option (ByteArray)) (k : ByteArray → Option R) (x0 : Int) : Option R :=
  bif (decide (x0 < (-9223372036854775807 : Int))) then
    k (ByteArray.mk #[45, 57, 50, 50, 51, 51, 55, 50, 48, 51, 54, 56, 53, 52, 55, 55, 53, 56, 48, 56])
  else bif (decide (x0 < (0 : Int))) then
    (self116 (wi (0 - x0))).bind fun y0 =>
    bif (decide ((ByteArray.mk #[45]).size + y0.size ≤ 4611686018427387904)) then
      k ((ByteArray.mk #[45]) ++ y0)
    else none
  else bif (decide (x0 < (10 : Int))) then
    k (strOfNums ([(IntKind.wrap .u8 ((wi ((48 : Int) + x0))))] : LI))
  else bif (decide ((10 : Int) = 0)) then
    none
  else (self116 (wi (Int.tdiv x0 (10 : Int)))).bind fun y1 =>
  bif (decide ((10 : Int) = 0)) then
    none
  else bif (decide (y1.size + (strOfNums ([(IntKind.wrap .u8 ((wi ((48 : Int) + (Int.tmod x0 (10 : Int))))))] : LI)).size ≤ 4611686018427387904)) then
    k (y1 ++ (strOfNums ([(IntKind.wrap .u8 ((wi ((48 : Int) + (Int.tmod x0 (10 : Int))))))] : LI)))
  else none
def f116.b {R : Type} (L N : Nat) (self116 : Int → Option (ByteArray)) (k : ByteArray → Option R) (x0 : Int) : Option R :=
  f116.b' L N self116 k x0
def f116 (L N : Nat) : Nat → Int → Option (ByteArray)
  | 0, _ => none
  | n + 1, x0 => f116.b L N (f116 L N n) some x0
def f116.ent (L N m : Nat) (args : List AV) (vw : View) (site : Nat) : Ans := match roD [i64] vw args with
  | some d => ⟨ByteArray, f116 L N m d.1, fun y => ((.tv .str y), [], [])⟩
  | none => Ans.no
def Φ116s (L N m : Nat) : Tells := (addT (Φ77 L N) 116 (f116.ent L N m))
noncomputable def E116 (L N m : Nat) : Env := { P := Try.prog, ty := tyOf, Φ := Φ116s L N m, inl := inlT, live := lives, liveX := livesX, L := L, dp := none, prom := promT, heal := healT, ren := renT }
theorem f116.b_eq {R : Type} (L N m : Nat) (κ : AV → Option R) (x0 : Int) :
    evBody (E116 L N m) (evCallI (E116 L N m) 0 1000) 1000 116 Try.f116 [(.tv i64 x0)] [] [] (finC (.one .str) κ)
    = f116.b L N (f116 L N m) (fun a0 => κ (.tv .str a0)) x0 := by kernel_rfl
theorem f116.ok (L N m : Nat) (hΦ : TellsOk Try.prog (Φ116s L N m)) : EntOk Try.prog 116 (f116.ent L N (m + 1)) := by
  intro args vw site h
  unfold f116.ent
  split
  · rename_i d ha
    intro y hy hs
    refine call_ro (dep := 1000) (E := (E116 L N m)) (rs := (.one .str)) (κ := unR (.one .str)) (sound_of hΦ) okP (callI_sound (sound_of hΦ) okP 0 1000) (f := Try.f116) rfl hs ha ?_ (fun _ h => unR_some h) rfl site
    exact (f116.b_eq L N m (unR (.one .str)) d.1).trans (Eq.trans (b := f116.b L N (f116 L N m) some d.1) (by kernel_rfl) hy)
  · intro y hy
    cases hy
theorem Φ116s_ok (L N : Nat) : ∀ m, TellsOk Try.prog (Φ116s L N m) := by
  intro m
  induction m with
  | zero => exact (addT_ok (Φ77_ok L N) (fun args vw site h => by unfold f116.ent; split <;> (intro y hy; cases hy)))
  | succ m ih => exact (addT_ok (Φ77_ok L N) (f116.ok L N m ih))
def Φ116 (L N : Nat) : Tells := (addT (Φ77 L N) 116 (f116.ent L N N))
theorem Φ116_ok (L N : Nat) : TellsOk Try.prog (Φ116 L N) := Φ116s_ok L N N
def f117.b' {R : Type} (L N : Nat) (k : LY → Option R) : Option R :=
  k ([(ByteArray.mk #[]), (ByteArray.mk #[97, 99, 116]), (ByteArray.mk #[115, 117, 109]), (ByteArray.mk #[112, 97, 114]), (ByteArray.mk #[104, 105, 100, 101])] : LY)
def f117.b {R : Type} (L N : Nat) (k : LY → Option R) : Option R :=
  f117.b' L N k
def f117 (L N : Nat) : Option (LY) := f117.b L N some
def f117.ent (L N : Nat) (args : List AV) (vw : View) (site : Nat) : Ans := match coeD [] vw args with
  | some (d, u) => ⟨LY, f117 L N, fun y => ((.tv (.sl .str) y), u, [])⟩
  | none => Ans.no
noncomputable def E117 (L N : Nat) : Env := { P := Try.prog, ty := tyOf, Φ := (Φ116 L N), inl := inlT, live := lives, liveX := livesX, L := L, dp := none, prom := promT, heal := healT, ren := renT }
theorem f117.b_eq {R : Type} (L N : Nat) (κ : AV → Option R) :
    evBody (E117 L N) (evCallI (E117 L N) 0 1000) 1000 117 Try.f117 [] [] [] (finC (.one (.sl .str)) κ)
    = f117.b L N (fun a0 => κ (.tv (.sl .str) a0)) := by kernel_rfl
theorem f117.ok (L N : Nat) (hΦ : TellsOk Try.prog ((Φ116 L N))) : EntOk Try.prog 117 (f117.ent L N) := by
  intro args vw site h
  unfold f117.ent
  split
  · rename_i d u ha
    intro y hy hs
    refine call_data (dep := 1000) (E := (E117 L N)) (rs := (.one (.sl .str))) (κ := unR (.one (.sl .str))) (sound_of hΦ) okP (callI_sound (sound_of hΦ) okP 0 1000) (f := Try.f117) rfl hs ha ?_ (fun _ h => unR_some h) site
    exact (f117.b_eq L N (unR (.one (.sl .str)))).trans (Eq.trans (b := f117.b L N some) (by kernel_rfl) hy)
  · intro y hy
    cases hy
def Φ117 (L N : Nat) : Tells := (addT (Φ116 L N) 117 (f117.ent L N))
theorem Φ117_ok (L N : Nat) : TellsOk Try.prog (Φ117 L N) := addT_ok (Φ116_ok L N) (f117.ok L N (Φ116_ok L N))
def f111.s0' {R : Type} (L N : Nat) (self111 : Tree → Option (ByteArray)) (k0_e1 : ByteArray → Option R) (rec0 : ByteArray → Int → Int → Int → LT → Option R) (s12 : ByteArray) (s13 : Int) (s14 : Int) (s15 : Int) (s16 : LT) : Option R :=
  bif (decide (s13 < (s16.length : Int))) then
    bif (decide (s12.size + (ByteArray.mk #[32]).size ≤ 4611686018427387904)) then
      bif (decide (0 ≤ s13) && decide (s13 < (s16.length : Int))) then
        (self111 (listAt s16 (Ty.dflt (.st 1)) s13.toNat)).bind fun y18 =>
        bif (decide ((s12 ++ (ByteArray.mk #[32])).size + y18.size ≤ 4611686018427387904)) then
          rec0 ((s12 ++ (ByteArray.mk #[32])) ++ y18) (wi (s13 + (1 : Int))) s14 s15 s16
        else none
      else none
    else none
  else k0_e1 s12
def f111.s0 {R : Type} (L N : Nat) (self111 : Tree → Option (ByteArray)) (k0_e1 : ByteArray → Option R) (rec0 : ByteArray → Int → Int → Int → LT → Option R) (s12 : ByteArray) (s13 : Int) (s14 : Int) (s15 : Int) (s16 : LT) : Option R :=
  f111.s0' L N self111 k0_e1 rec0 s12 s13 s14 s15 s16
def f111.l0 {R : Type} (L N : Nat) (self111 : Tree → Option (ByteArray)) (k0_e1 : ByteArray → Option R) : Nat → ByteArray → Int → Int → Int → LT → Option R
  | 0, _, _, _, _, _ => none
  | n + 1, s12, s13, s14, s15, s16 => f111.s0 L N self111 k0_e1 (f111.l0 L N self111 k0_e1 n) s12 s13 s14 s15 s16
def f111.T0 (s12 : ByteArray) (s13 : Int) (s14 : Int) (s15 : Int) (s16 : LT) : T := mkT 58 [(1, (.ptr 1001 0)), (3, (.tv .str s12)), (4, (.tv i64 s13))]
def f111.H0 (s12 : ByteArray) (s13 : Int) (s14 : Int) (s15 : Int) (s16 : LT) : H := [(1001, (.box [(.tv i64 s14), (.tv i64 s15), (.tv (.sl (.st 1)) s16)]))]
def f111.T0_e1 (z17 : ByteArray) : T := mkT 58 [(3, (.tv .str z17))]
def f111.H0_e1 (z17 : ByteArray) : H := []
def f111.p0_e1' {R : Type} (L N : Nat) (self111 : Tree → Option (ByteArray)) (k : ByteArray → Option R) (z17 : ByteArray) : Option R :=
  bif (decide (z17.size + (ByteArray.mk #[41]).size ≤ 4611686018427387904)) then
    k (z17 ++ (ByteArray.mk #[41]))
  else none
def f111.p0_e1 {R : Type} (L N : Nat) (self111 : Tree → Option (ByteArray)) (k : ByteArray → Option R) (z17 : ByteArray) : Option R :=
  f111.p0_e1' L N self111 k z17
def f111.j0' {R : Type} (L N : Nat) (self111 : Tree → Option (ByteArray)) (k : ByteArray → Option R) (w0 : ByteArray → Int → Int → Int → LT → Option R) (v8 : ByteArray) (v9 : Int) (v10 : Int) (v11 : LT) : Option R :=
  w0 v8 (0 : Int) v9 v10 v11
def f111.j1' {R : Type} (L N : Nat) (self111 : Tree → Option (ByteArray)) (k : ByteArray → Option R) (w0 : ByteArray → Int → Int → Int → LT → Option R) (v3 : ByteArray) (v4 : Int) (v5 : Int) (v6 : LT) : Option R :=
  bif (v4 == (4 : Int)) then
    bif (decide (v3.size + (ByteArray.mk #[32]).size ≤ 4611686018427387904)) then
      (f77 L N (wi (v5 + (1 : Int)))).bind fun y7 =>
      bif (decide ((v3 ++ (ByteArray.mk #[32])).size + y7.size ≤ 4611686018427387904)) then
        f111.j0' L N self111 k w0 ((v3 ++ (ByteArray.mk #[32])) ++ y7) v4 v5 v6
      else none
    else none
  else f111.j0' L N self111 k w0 v3 v4 v5 v6
def f111.b' {R : Type} (L N : Nat) (self111 : Tree → Option (ByteArray)) (k : ByteArray → Option R) (w0 : ByteArray → Int → Int → Int → LT → Option R) (x0 : Tree) : Option R :=
  bif (x0.op == (0 : Int)) then
    k (ByteArray.mk #[48])
  else bif (x0.op == (5 : Int)) then
    (f116 L N N x0.n).bind fun y0 =>
    bif (decide ((ByteArray.mk #[88]).size + y0.size ≤ 4611686018427387904)) then
      k ((ByteArray.mk #[88]) ++ y0)
    else none
  else (f117 L N).bind fun y1 =>
  bif (decide (0 ≤ x0.op) && decide (x0.op < (y1.length : Int))) then
    bif (decide ((ByteArray.mk #[40]).size + (listAt y1 ByteArray.empty x0.op.toNat).size ≤ 4611686018427387904)) then
      bif (x0.op == (1 : Int)) then
        bif (decide (((ByteArray.mk #[40]) ++ (listAt y1 ByteArray.empty x0.op.toNat)).size + (ByteArray.mk #[32]).size ≤ 4611686018427387904)) then
          (f77 L N x0.n).bind fun y2 =>
          bif (decide ((((ByteArray.mk #[40]) ++ (listAt y1 ByteArray.empty x0.op.toNat)) ++ (ByteArray.mk #[32])).size + y2.size ≤ 4611686018427387904)) then
            f111.j1' L N self111 k w0 ((((ByteArray.mk #[40]) ++ (listAt y1 ByteArray.empty x0.op.toNat)) ++ (ByteArray.mk #[32])) ++ y2) x0.op x0.n x0.parts
          else none
        else none
      else f111.j1' L N self111 k w0 ((ByteArray.mk #[40]) ++ (listAt y1 ByteArray.empty x0.op.toNat)) x0.op x0.n x0.parts
    else none
  else none
def f111.b {R : Type} (L N : Nat) (self111 : Tree → Option (ByteArray)) (k : ByteArray → Option R) (x0 : Tree) : Option R :=
  f111.b' L N self111 k (fun s12 s13 s14 s15 s16 => f111.l0 L N self111 (fun z17 => f111.p0_e1 L N self111 k z17) L s12 s13 s14 s15 s16) x0
def f111 (L N : Nat) : Nat → Tree → Option (ByteArray)
  | 0, _ => none
  | n + 1, x0 => f111.b L N (f111 L N n) some x0
def f111.ent (L N m : Nat) (args : List AV) (vw : View) (site : Nat) : Ans := match roD [(.st 1)] vw args with
  | some d => ⟨ByteArray, f111 L N m d.1, fun y => ((.tv .str y), [], [])⟩
  | none => Ans.no
def Φ111s (L N m : Nat) : Tells := (addT (Φ117 L N) 111 (f111.ent L N m))
noncomputable def E111 (L N m : Nat) : Env := { P := Try.prog, ty := tyOf, Φ := Φ111s L N m, inl := inlT, live := lives, liveX := livesX, L := L, dp := none, prom := promT, heal := healT, ren := renT }
noncomputable def f111.c0 : Code := loopAt 1 (codeOf Try.f111)
theorem f111.s0_eq {R : Type} (L N m : Nat) (κ : Ex → T → H → Option R) (rec : T → H → Option R) (s12 : ByteArray) (s13 : Int) (s14 : Int) (s15 : Int) (s16 : LT) :
    evRd (E111 L N m) (evCallI (E111 L N m) 0 1000) 1000 111 58 1 f111.c0 κ rec (f111.T0 s12 s13 s14 s15 s16) (f111.H0 s12 s13 s14 s15 s16)
    = f111.s0 L N (f111 L N m) (fun z17 => κ (.exit 1) (f111.T0_e1 z17) (f111.H0_e1 z17)) (fun s12 s13 s14 s15 s16 => rec (f111.T0 s12 s13 s14 s15 s16) (f111.H0 s12 s13 s14 s15 s16)) s12 s13 s14 s15 s16 := by kernel_rfl
theorem f111.l0_eq {R : Type} (L N m : Nat) (κ : Ex → T → H → Option R) : ∀ (n : Nat) (s12 : ByteArray) (s13 : Int) (s14 : Int) (s15 : Int) (s16 : LT),
    evLp (E111 L N m) (evCallI (E111 L N m) 0 1000) 1000 111 58 1 f111.c0 κ n (f111.T0 s12 s13 s14 s15 s16) (f111.H0 s12 s13 s14 s15 s16)
    = f111.l0 L N (f111 L N m) (fun z17 => κ (.exit 1) (f111.T0_e1 z17) (f111.H0_e1 z17)) n s12 s13 s14 s15 s16 := by
  intro n
  induction n with
  | zero => intros; rfl
  | succ n ih =>
    intro s12 s13 s14 s15 s16
    rw [evLp_succ, f111.s0_eq]
    simp only [ih]
    rfl
theorem f111.p0_e1_eq {R : Type} (L N m : Nat) (κ : AV → Option R) (z17 : ByteArray) :
    (contAt (E111 L N m) (evCallI (E111 L N m) 0 1000) 1000 111 58 1 (codeOf Try.f111) (finK (E111 L N m) 1000 Try.f111 (finC (.one .str) κ))) (.exit 1) (f111.T0_e1 z17) (f111.H0_e1 z17)
    = f111.p0_e1 L N (f111 L N m) (fun a0 => κ (.tv .str a0)) z17 := by kernel_rfl
theorem f111.b_eq {R : Type} (L N m : Nat) (κ : AV → Option R) (x0 : Tree) :
    evBody (E111 L N m) (evCallI (E111 L N m) 0 1000) 1000 111 Try.f111 [(.tv (.st 1) x0)] [] [] (finC (.one .str) κ)
    = f111.b L N (f111 L N m) (fun a0 => κ (.tv .str a0)) x0 := by
  refine Eq.trans (b := f111.b' L N (f111 L N m) (fun a0 => κ (.tv .str a0)) (fun s12 s13 s14 s15 s16 => evLp (E111 L N m) (evCallI (E111 L N m) 0 1000) 1000 111 58 1 f111.c0 (contAt (E111 L N m) (evCallI (E111 L N m) 0 1000) 1000 111 58 1 (codeOf Try.f111) (finK (E111 L N m) 1000 Try.f111 (finC (.one .str) κ))) L (f111.T0 s12 s13 s14 s15 s16) (f111.H0 s12 s13 s14 s15 s16)) x0) (by kernel_rfl) ?_
  unfold f111.b
  simp only [f111.l0_eq, f111.p0_e1_eq]
theorem f111.ok (L N m : Nat) (hΦ : TellsOk Try.prog (Φ111s L N m)) : EntOk Try.prog 111 (f111.ent L N (m + 1)) := by
  intro args vw site h
  unfold f111.ent
  split
  · rename_i d ha
    intro y hy hs
    refine call_ro (dep := 1000) (E := (E111 L N m)) (rs := (.one .str)) (κ := unR (.one .str)) (sound_of hΦ) okP (callI_sound (sound_of hΦ) okP 0 1000) (f := Try.f111) rfl hs ha ?_ (fun _ h => unR_some h) rfl site
    exact (f111.b_eq L N m (unR (.one .str)) d.1).trans (Eq.trans (b := f111.b L N (f111 L N m) some d.1) (by kernel_rfl) hy)
  · intro y hy
    cases hy
theorem Φ111s_ok (L N : Nat) : ∀ m, TellsOk Try.prog (Φ111s L N m) := by
  intro m
  induction m with
  | zero => exact (addT_ok (Φ117_ok L N) (fun args vw site h => by unfold f111.ent; split <;> (intro y hy; cases hy)))
  | succ m ih => exact (addT_ok (Φ117_ok L N) (f111.ok L N m ih))
def Φ111 (L N : Nat) : Tells := (addT (Φ117 L N) 111 (f111.ent L N N))
theorem Φ111_ok (L N : Nat) : TellsOk Try.prog (Φ111 L N) := Φ111s_ok L N N
def f112.s0' {R : Type} (L N : Nat) (self112 : Tree → LT → Option (LS)) (k0_e1 : Int → Int → LT → LS → LS → LS → Option R) (rec0 : Int → Int → Int → LT → LS → LS → LS → Option R) (s4 : Int) (s5 : Int) (s6 : Int) (s7 : LT) (s8 : LS) (s9 : LS) (s10 : LS) : Option R :=
  bif (decide (s4 < (s9.length : Int))) then
    bif (decide (0 ≤ s4) && decide (s4 < (s9.length : Int))) then
      bif (decide (0 ≤ s4) && decide (s4 < (s9.length : Int))) then
        bif (decide (0 ≤ (1 : Int)) && decide ((1 : Int) < (s7.length : Int))) then
          bif (decide (s8.length + ([(Step.mk ((listAt s9 (Ty.dflt (.st 3)) s4.toNat).act) (Tree.mk (3 : Int) (0 : Int) ([(Tree.mk ((listAt s9 (Ty.dflt (.st 3)) s4.toNat).thn.op) ((listAt s9 (Ty.dflt (.st 3)) s4.toNat).thn.n) ((listAt s9 (Ty.dflt (.st 3)) s4.toNat).thn.parts)), (listAt s7 (Ty.dflt (.st 1)) (1 : Int).toNat)] : LT)))] : LS).length ≤ lim)) then
            rec0 (wi (s4 + (1 : Int))) s5 s6 s7 (s8 ++ ([(Step.mk ((listAt s9 (Ty.dflt (.st 3)) s4.toNat).act) (Tree.mk (3 : Int) (0 : Int) ([(Tree.mk ((listAt s9 (Ty.dflt (.st 3)) s4.toNat).thn.op) ((listAt s9 (Ty.dflt (.st 3)) s4.toNat).thn.n) ((listAt s9 (Ty.dflt (.st 3)) s4.toNat).thn.parts)), (listAt s7 (Ty.dflt (.st 1)) (1 : Int).toNat)] : LT)))] : LS)) s9 s10
          else none
        else none
      else none
    else none
  else k0_e1 s5 s6 s7 s8 s9 s10
def f112.s0 {R : Type} (L N : Nat) (self112 : Tree → LT → Option (LS)) (k0_e1 : Int → Int → LT → LS → LS → LS → Option R) (rec0 : Int → Int → Int → LT → LS → LS → LS → Option R) (s4 : Int) (s5 : Int) (s6 : Int) (s7 : LT) (s8 : LS) (s9 : LS) (s10 : LS) : Option R :=
  f112.s0' L N self112 k0_e1 rec0 s4 s5 s6 s7 s8 s9 s10
def f112.l0 {R : Type} (L N : Nat) (self112 : Tree → LT → Option (LS)) (k0_e1 : Int → Int → LT → LS → LS → LS → Option R) : Nat → Int → Int → Int → LT → LS → LS → LS → Option R
  | 0, _, _, _, _, _, _, _ => none
  | n + 1, s4, s5, s6, s7, s8, s9, s10 => f112.s0 L N self112 k0_e1 (f112.l0 L N self112 k0_e1 n) s4 s5 s6 s7 s8 s9 s10
def f112.T0 (s4 : Int) (s5 : Int) (s6 : Int) (s7 : LT) (s8 : LS) (s9 : LS) (s10 : LS) : T := mkT 217 [(2, (.ptr 1002 0)), (5, (.row 1014)), (6, (.row 1051)), (7, (.row 1057)), (8, (.tv i64 s4))]
def f112.H0 (s4 : Int) (s5 : Int) (s6 : Int) (s7 : LT) (s8 : LS) (s9 : LS) (s10 : LS) : H := [(1002, (.box [(.tv i64 s5), (.tv i64 s6), (.tv (.sl (.st 1)) s7)])), (1014, (.row 125 (.st 3) s8)), (1051, (.row 125 (.st 3) s9)), (1057, (.row 125 (.st 3) s10))]
def f112.T0_e1 (z11 : Int) (z12 : Int) (z13 : LT) (z14 : LS) (z15 : LS) (z16 : LS) : T := mkT 217 [(2, (.ptr 1002 0)), (5, (.row 1014)), (6, (.row 1051)), (7, (.row 1057))]
def f112.H0_e1 (z11 : Int) (z12 : Int) (z13 : LT) (z14 : LS) (z15 : LS) (z16 : LS) : H := [(1002, (.box [(.tv i64 z11), (.tv i64 z12), (.tv (.sl (.st 1)) z13)])), (1014, (.row 125 (.st 3) z14)), (1051, (.row 125 (.st 3) z15)), (1057, (.row 125 (.st 3) z16))]
def f112.s1' {R : Type} (L N : Nat) (self112 : Tree → LT → Option (LS)) (k1_e3 : LS → LS → LS → Option R) (rec1 : Int → Int → Int → LT → LS → LS → LS → Option R) (s17 : Int) (s18 : Int) (s19 : Int) (s20 : LT) (s21 : LS) (s22 : LS) (s23 : LS) : Option R :=
  bif (decide (s17 < (s23.length : Int))) then
    bif (decide (0 ≤ s17) && decide (s17 < (s23.length : Int))) then
      bif (decide (0 ≤ (0 : Int)) && decide ((0 : Int) < (s20.length : Int))) then
        bif (decide (0 ≤ s17) && decide (s17 < (s23.length : Int))) then
          bif (decide (s21.length + ([(Step.mk ((listAt s23 (Ty.dflt (.st 3)) s17.toNat).act) (Tree.mk (3 : Int) (0 : Int) ([(listAt s20 (Ty.dflt (.st 1)) (0 : Int).toNat), (Tree.mk ((listAt s23 (Ty.dflt (.st 3)) s17.toNat).thn.op) ((listAt s23 (Ty.dflt (.st 3)) s17.toNat).thn.n) ((listAt s23 (Ty.dflt (.st 3)) s17.toNat).thn.parts))] : LT)))] : LS).length ≤ lim)) then
            rec1 (wi (s17 + (1 : Int))) s18 s19 s20 (s21 ++ ([(Step.mk ((listAt s23 (Ty.dflt (.st 3)) s17.toNat).act) (Tree.mk (3 : Int) (0 : Int) ([(listAt s20 (Ty.dflt (.st 1)) (0 : Int).toNat), (Tree.mk ((listAt s23 (Ty.dflt (.st 3)) s17.toNat).thn.op) ((listAt s23 (Ty.dflt (.st 3)) s17.toNat).thn.n) ((listAt s23 (Ty.dflt (.st 3)) s17.toNat).thn.parts))] : LT)))] : LS)) s22 s23
          else none
        else none
      else none
    else none
  else k1_e3 s21 s22 s23
def f112.s1 {R : Type} (L N : Nat) (self112 : Tree → LT → Option (LS)) (k1_e3 : LS → LS → LS → Option R) (rec1 : Int → Int → Int → LT → LS → LS → LS → Option R) (s17 : Int) (s18 : Int) (s19 : Int) (s20 : LT) (s21 : LS) (s22 : LS) (s23 : LS) : Option R :=
  f112.s1' L N self112 k1_e3 rec1 s17 s18 s19 s20 s21 s22 s23
def f112.l1 {R : Type} (L N : Nat) (self112 : Tree → LT → Option (LS)) (k1_e3 : LS → LS → LS → Option R) : Nat → Int → Int → Int → LT → LS → LS → LS → Option R
  | 0, _, _, _, _, _, _, _ => none
  | n + 1, s17, s18, s19, s20, s21, s22, s23 => f112.s1 L N self112 k1_e3 (f112.l1 L N self112 k1_e3 n) s17 s18 s19 s20 s21 s22 s23
def f112.T1 (s17 : Int) (s18 : Int) (s19 : Int) (s20 : LT) (s21 : LS) (s22 : LS) (s23 : LS) : T := mkT 217 [(2, (.ptr 1002 0)), (5, (.row 1014)), (6, (.row 1051)), (7, (.row 1057)), (9, (.tv i64 s17))]
def f112.H1 (s17 : Int) (s18 : Int) (s19 : Int) (s20 : LT) (s21 : LS) (s22 : LS) (s23 : LS) : H := [(1002, (.box [(.tv i64 s18), (.tv i64 s19), (.tv (.sl (.st 1)) s20)])), (1014, (.row 125 (.st 3) s21)), (1051, (.row 125 (.st 3) s22)), (1057, (.row 125 (.st 3) s23))]
def f112.T1_e3 (z24 : LS) (z25 : LS) (z26 : LS) : T := mkT 217 [(5, (.row 1014)), (6, (.row 1051)), (7, (.row 1057))]
def f112.H1_e3 (z24 : LS) (z25 : LS) (z26 : LS) : H := [(1014, (.row 125 (.st 3) z24)), (1051, (.row 125 (.st 3) z25)), (1057, (.row 125 (.st 3) z26))]
def f112.j0' {R : Type} (L N : Nat) (self112 : Tree → LT → Option (LS)) (k3_e7 : Int → LS → LS → LS → Option R) (rec3 : Int → Int → LS → LS → LS → Option R) (v41 : Int) (v42 : Int) (v43 : Bool) (v44 : LS) (v45 : LS) (v46 : LS) : Option R :=
  bif v43 then
    bif (decide (0 ≤ v41) && decide (v41 < (v45.length : Int))) then
      bif (decide (0 ≤ v42) && decide (v42 < (v46.length : Int))) then
        bif (decide (v44.length + ([(Step.mk (0 : Int) (Tree.mk (3 : Int) (0 : Int) ([(Tree.mk ((listAt v45 (Ty.dflt (.st 3)) v41.toNat).thn.op) ((listAt v45 (Ty.dflt (.st 3)) v41.toNat).thn.n) ((listAt v45 (Ty.dflt (.st 3)) v41.toNat).thn.parts)), (Tree.mk ((listAt v46 (Ty.dflt (.st 3)) v42.toNat).thn.op) ((listAt v46 (Ty.dflt (.st 3)) v42.toNat).thn.n) ((listAt v46 (Ty.dflt (.st 3)) v42.toNat).thn.parts))] : LT)))] : LS).length ≤ lim)) then
          rec3 v41 (wi (v42 + (1 : Int))) (v44 ++ ([(Step.mk (0 : Int) (Tree.mk (3 : Int) (0 : Int) ([(Tree.mk ((listAt v45 (Ty.dflt (.st 3)) v41.toNat).thn.op) ((listAt v45 (Ty.dflt (.st 3)) v41.toNat).thn.n) ((listAt v45 (Ty.dflt (.st 3)) v41.toNat).thn.parts)), (Tree.mk ((listAt v46 (Ty.dflt (.st 3)) v42.toNat).thn.op) ((listAt v46 (Ty.dflt (.st 3)) v42.toNat).thn.n) ((listAt v46 (Ty.dflt (.st 3)) v42.toNat).thn.parts))] : LT)))] : LS)) v45 v46
        else none
      else none
    else none
  else rec3 v41 (wi (v42 + (1 : Int))) v44 v45 v46
def f112.s3' {R : Type} (L N : Nat) (self112 : Tree → LT → Option (LS)) (k3_e7 : Int → LS → LS → LS → Option R) (rec3 : Int → Int → LS → LS → LS → Option R) (s32 : Int) (s33 : Int) (s34 : LS) (s35 : LS) (s36 : LS) : Option R :=
  bif (decide (s33 < (s36.length : Int))) then
    bif (decide (0 ≤ s32) && decide (s32 < (s35.length : Int))) then
      bif ((listAt s35 (Ty.dflt (.st 3)) s32.toNat).act != (0 : Int)) then
        bif (decide (0 ≤ s32) && decide (s32 < (s35.length : Int))) then
          bif (decide (0 ≤ s33) && decide (s33 < (s36.length : Int))) then
            f112.j0' L N self112 k3_e7 rec3 s32 s33 ((listAt s35 (Ty.dflt (.st 3)) s32.toNat).act == (wi (0 - (listAt s36 (Ty.dflt (.st 3)) s33.toNat).act))) s34 s35 s36
          else none
        else none
      else f112.j0' L N self112 k3_e7 rec3 s32 s33 false s34 s35 s36
    else none
  else k3_e7 s32 s34 s35 s36
def f112.s3 {R : Type} (L N : Nat) (self112 : Tree → LT → Option (LS)) (k3_e7 : Int → LS → LS → LS → Option R) (rec3 : Int → Int → LS → LS → LS → Option R) (s32 : Int) (s33 : Int) (s34 : LS) (s35 : LS) (s36 : LS) : Option R :=
  f112.s3' L N self112 k3_e7 rec3 s32 s33 s34 s35 s36
def f112.l3 {R : Type} (L N : Nat) (self112 : Tree → LT → Option (LS)) (k3_e7 : Int → LS → LS → LS → Option R) : Nat → Int → Int → LS → LS → LS → Option R
  | 0, _, _, _, _, _ => none
  | n + 1, s32, s33, s34, s35, s36 => f112.s3 L N self112 k3_e7 (f112.l3 L N self112 k3_e7 n) s32 s33 s34 s35 s36
def f112.T3 (s32 : Int) (s33 : Int) (s34 : LS) (s35 : LS) (s36 : LS) : T := mkT 217 [(5, (.row 1014)), (6, (.row 1051)), (7, (.row 1057)), (10, (.tv i64 s32)), (11, (.tv i64 s33))]
def f112.H3 (s32 : Int) (s33 : Int) (s34 : LS) (s35 : LS) (s36 : LS) : H := [(1014, (.row 125 (.st 3) s34)), (1051, (.row 125 (.st 3) s35)), (1057, (.row 125 (.st 3) s36))]
def f112.T3_e7 (z37 : Int) (z38 : LS) (z39 : LS) (z40 : LS) : T := mkT 217 [(5, (.row 1014)), (6, (.row 1051)), (7, (.row 1057)), (10, (.tv i64 z37))]
def f112.H3_e7 (z37 : Int) (z38 : LS) (z39 : LS) (z40 : LS) : H := [(1014, (.row 125 (.st 3) z38)), (1051, (.row 125 (.st 3) z39)), (1057, (.row 125 (.st 3) z40))]
def f112.p3_e7' {R : Type} (L N : Nat) (self112 : Tree → LT → Option (LS)) (k2_e5 : LS → Option R) (rec2 : Int → LS → LS → LS → Option R) (z37 : Int) (z38 : LS) (z39 : LS) (z40 : LS) : Option R :=
  rec2 (wi (z37 + (1 : Int))) z38 z39 z40
def f112.p3_e7 {R : Type} (L N : Nat) (self112 : Tree → LT → Option (LS)) (k2_e5 : LS → Option R) (rec2 : Int → LS → LS → LS → Option R) (z37 : Int) (z38 : LS) (z39 : LS) (z40 : LS) : Option R :=
  f112.p3_e7' L N self112 k2_e5 rec2 z37 z38 z39 z40
def f112.s2' {R : Type} (L N : Nat) (self112 : Tree → LT → Option (LS)) (k2_e5 : LS → Option R) (rec2 : Int → LS → LS → LS → Option R) (w3 : Int → Int → LS → LS → LS → Option R) (s27 : Int) (s28 : LS) (s29 : LS) (s30 : LS) : Option R :=
  bif (decide (s27 < (s29.length : Int))) then
    w3 s27 (0 : Int) s28 s29 s30
  else k2_e5 s28
def f112.s2 {R : Type} (L N : Nat) (self112 : Tree → LT → Option (LS)) (k2_e5 : LS → Option R) (rec2 : Int → LS → LS → LS → Option R) (s27 : Int) (s28 : LS) (s29 : LS) (s30 : LS) : Option R :=
  f112.s2' L N self112 k2_e5 rec2 (fun s32 s33 s34 s35 s36 => f112.l3 L N self112 (fun z37 z38 z39 z40 => f112.p3_e7 L N self112 k2_e5 rec2 z37 z38 z39 z40) L s32 s33 s34 s35 s36) s27 s28 s29 s30
def f112.l2 {R : Type} (L N : Nat) (self112 : Tree → LT → Option (LS)) (k2_e5 : LS → Option R) : Nat → Int → LS → LS → LS → Option R
  | 0, _, _, _, _ => none
  | n + 1, s27, s28, s29, s30 => f112.s2 L N self112 k2_e5 (f112.l2 L N self112 k2_e5 n) s27 s28 s29 s30
def f112.T2 (s27 : Int) (s28 : LS) (s29 : LS) (s30 : LS) : T := mkT 217 [(5, (.row 1014)), (6, (.row 1051)), (7, (.row 1057)), (10, (.tv i64 s27))]
def f112.H2 (s27 : Int) (s28 : LS) (s29 : LS) (s30 : LS) : H := [(1014, (.row 125 (.st 3) s28)), (1051, (.row 125 (.st 3) s29)), (1057, (.row 125 (.st 3) s30))]
def f112.T2_e5 (z31 : LS) : T := mkT 217 [(5, (.row 1014))]
def f112.H2_e5 (z31 : LS) : H := [(1014, (.row 125 (.st 3) z31))]
def f112.p2_e5' {R : Type} (L N : Nat) (self112 : Tree → LT → Option (LS)) (k : LS → Option R) (z31 : LS) : Option R :=
  k z31
def f112.p2_e5 {R : Type} (L N : Nat) (self112 : Tree → LT → Option (LS)) (k : LS → Option R) (z31 : LS) : Option R :=
  f112.p2_e5' L N self112 k z31
def f112.p1_e3' {R : Type} (L N : Nat) (self112 : Tree → LT → Option (LS)) (k : LS → Option R) (w2 : Int → LS → LS → LS → Option R) (z24 : LS) (z25 : LS) (z26 : LS) : Option R :=
  w2 (0 : Int) z24 z25 z26
def f112.p1_e3 {R : Type} (L N : Nat) (self112 : Tree → LT → Option (LS)) (k : LS → Option R) (z24 : LS) (z25 : LS) (z26 : LS) : Option R :=
  f112.p1_e3' L N self112 k (fun s27 s28 s29 s30 => f112.l2 L N self112 (fun z31 => f112.p2_e5 L N self112 k z31) L s27 s28 s29 s30) z24 z25 z26
def f112.p0_e1' {R : Type} (L N : Nat) (self112 : Tree → LT → Option (LS)) (k : LS → Option R) (w1 : Int → Int → Int → LT → LS → LS → LS → Option R) (z11 : Int) (z12 : Int) (z13 : LT) (z14 : LS) (z15 : LS) (z16 : LS) : Option R :=
  w1 (0 : Int) z11 z12 z13 z14 z15 z16
def f112.p0_e1 {R : Type} (L N : Nat) (self112 : Tree → LT → Option (LS)) (k : LS → Option R) (z11 : Int) (z12 : Int) (z13 : LT) (z14 : LS) (z15 : LS) (z16 : LS) : Option R :=
  f112.p0_e1' L N self112 k (fun s17 s18 s19 s20 s21 s22 s23 => f112.l1 L N self112 (fun z24 z25 z26 => f112.p1_e3 L N self112 k z24 z25 z26) L s17 s18 s19 s20 s21 s22 s23) z11 z12 z13 z14 z15 z16
def f112.j1' {R : Type} (L N : Nat) (self112 : Tree → LT → Option (LS)) (k4_e9 : LS → Option R) (rec4 : Int → Int → Int → LT → LS → LS → Option R) (v61 : Int) (v62 : Bool) (v63 : Int) (v64 : Int) (v65 : LT) (v66 : LS) (v67 : LS) : Option R :=
  bif v62 then
    bif (decide (0 ≤ v61) && decide (v61 < (v67.length : Int))) then
      bif (decide (0 ≤ v61) && decide (v61 < (v67.length : Int))) then
        bif (decide (v66.length + ([(Step.mk ((listAt v67 (Ty.dflt (.st 3)) v61.toNat).act) (Tree.mk (4 : Int) v64 ([(Tree.mk ((listAt v67 (Ty.dflt (.st 3)) v61.toNat).thn.op) ((listAt v67 (Ty.dflt (.st 3)) v61.toNat).thn.n) ((listAt v67 (Ty.dflt (.st 3)) v61.toNat).thn.parts))] : LT)))] : LS).length ≤ lim)) then
          rec4 (wi (v61 + (1 : Int))) v63 v64 v65 (v66 ++ ([(Step.mk ((listAt v67 (Ty.dflt (.st 3)) v61.toNat).act) (Tree.mk (4 : Int) v64 ([(Tree.mk ((listAt v67 (Ty.dflt (.st 3)) v61.toNat).thn.op) ((listAt v67 (Ty.dflt (.st 3)) v61.toNat).thn.n) ((listAt v67 (Ty.dflt (.st 3)) v61.toNat).thn.parts))] : LT)))] : LS)) v67
        else none
      else none
    else none
  else rec4 (wi (v61 + (1 : Int))) v63 v64 v65 v66 v67
def f112.s4' {R : Type} (L N : Nat) (self112 : Tree → LT → Option (LS)) (k4_e9 : LS → Option R) (rec4 : Int → Int → Int → LT → LS → LS → Option R) (s53 : Int) (s54 : Int) (s55 : Int) (s56 : LT) (s57 : LS) (s58 : LS) : Option R :=
  bif (decide (s53 < (s58.length : Int))) then
    bif (decide (0 ≤ s53) && decide (s53 < (s58.length : Int))) then
      bif ((listAt s58 (Ty.dflt (.st 3)) s53.toNat).act == (0 : Int)) then
        f112.j1' L N self112 k4_e9 rec4 s53 true s54 s55 s56 s57 s58
      else bif (decide (0 ≤ s53) && decide (s53 < (s58.length : Int))) then
        (f95 L N ((listAt s58 (Ty.dflt (.st 3)) s53.toNat).act)).bind fun y60 =>
        f112.j1' L N self112 k4_e9 rec4 s53 (y60 != s55) s54 s55 s56 s57 s58
      else none
    else none
  else k4_e9 s57
def f112.s4 {R : Type} (L N : Nat) (self112 : Tree → LT → Option (LS)) (k4_e9 : LS → Option R) (rec4 : Int → Int → Int → LT → LS → LS → Option R) (s53 : Int) (s54 : Int) (s55 : Int) (s56 : LT) (s57 : LS) (s58 : LS) : Option R :=
  f112.s4' L N self112 k4_e9 rec4 s53 s54 s55 s56 s57 s58
def f112.l4 {R : Type} (L N : Nat) (self112 : Tree → LT → Option (LS)) (k4_e9 : LS → Option R) : Nat → Int → Int → Int → LT → LS → LS → Option R
  | 0, _, _, _, _, _, _ => none
  | n + 1, s53, s54, s55, s56, s57, s58 => f112.s4 L N self112 k4_e9 (f112.l4 L N self112 k4_e9 n) s53 s54 s55 s56 s57 s58
def f112.T4 (s53 : Int) (s54 : Int) (s55 : Int) (s56 : LT) (s57 : LS) (s58 : LS) : T := mkT 217 [(2, (.ptr 1002 0)), (5, (.row 1014)), (12, (.row 1165)), (13, (.tv i64 s53))]
def f112.H4 (s53 : Int) (s54 : Int) (s55 : Int) (s56 : LT) (s57 : LS) (s58 : LS) : H := [(1002, (.box [(.tv i64 s54), (.tv i64 s55), (.tv (.sl (.st 1)) s56)])), (1014, (.row 125 (.st 3) s57)), (1165, (.row 125 (.st 3) s58))]
def f112.T4_e9 (z59 : LS) : T := mkT 217 [(5, (.row 1014))]
def f112.H4_e9 (z59 : LS) : H := [(1014, (.row 125 (.st 3) z59))]
def f112.p4_e9' {R : Type} (L N : Nat) (self112 : Tree → LT → Option (LS)) (k : LS → Option R) (z59 : LS) : Option R :=
  k z59
def f112.p4_e9 {R : Type} (L N : Nat) (self112 : Tree → LT → Option (LS)) (k : LS → Option R) (z59 : LS) : Option R :=
  f112.p4_e9' L N self112 k z59
def f112.b' {R : Type} (L N : Nat) (self112 : Tree → LT → Option (LS)) (k : LS → Option R) (w0 : Int → Int → Int → LT → LS → LS → LS → Option R) (w4 : Int → Int → Int → LT → LS → LS → Option R) (x0 : Tree) (x1 : LT) : Option R :=
  bif (x0.op == (1 : Int)) then
    bif (decide (0 ≤ (0 : Int)) && decide ((0 : Int) < (x0.parts.length : Int))) then
      bif (decide (([] : LS).length + ([(Step.mk x0.n (Tree.mk ((listAt x0.parts (Ty.dflt (.st 1)) (0 : Int).toNat).op) ((listAt x0.parts (Ty.dflt (.st 1)) (0 : Int).toNat).n) ((listAt x0.parts (Ty.dflt (.st 1)) (0 : Int).toNat).parts)))] : LS).length ≤ lim)) then
        k (([] : LS) ++ ([(Step.mk x0.n (Tree.mk ((listAt x0.parts (Ty.dflt (.st 1)) (0 : Int).toNat).op) ((listAt x0.parts (Ty.dflt (.st 1)) (0 : Int).toNat).n) ((listAt x0.parts (Ty.dflt (.st 1)) (0 : Int).toNat).parts)))] : LS))
      else none
    else none
  else bif (x0.op == (2 : Int)) then
    bif (decide (0 ≤ (0 : Int)) && decide ((0 : Int) < (x0.parts.length : Int))) then
      (self112 (listAt x0.parts (Ty.dflt (.st 1)) (0 : Int).toNat) x1).bind fun y0 =>
      bif (decide (0 ≤ (1 : Int)) && decide ((1 : Int) < (x0.parts.length : Int))) then
        (self112 (listAt x0.parts (Ty.dflt (.st 1)) (1 : Int).toNat) x1).bind fun y1 =>
        bif (decide (y0.length + y1.length ≤ lim)) then
          k (y0 ++ y1)
        else none
      else none
    else none
  else bif (x0.op == (3 : Int)) then
    bif (decide (0 ≤ (0 : Int)) && decide ((0 : Int) < (x0.parts.length : Int))) then
      (self112 (listAt x0.parts (Ty.dflt (.st 1)) (0 : Int).toNat) x1).bind fun y2 =>
      bif (decide (0 ≤ (1 : Int)) && decide ((1 : Int) < (x0.parts.length : Int))) then
        (self112 (listAt x0.parts (Ty.dflt (.st 1)) (1 : Int).toNat) x1).bind fun y3 =>
        w0 (0 : Int) x0.op x0.n x0.parts ([] : LS) y2 y3
      else none
    else none
  else bif (x0.op == (4 : Int)) then
    bif (decide (0 ≤ (0 : Int)) && decide ((0 : Int) < (x0.parts.length : Int))) then
      (self112 (listAt x0.parts (Ty.dflt (.st 1)) (0 : Int).toNat) x1).bind fun y52 =>
      w4 (0 : Int) x0.op x0.n x0.parts ([] : LS) y52
    else none
  else bif (x0.op == (5 : Int)) then
    bif (decide (0 ≤ x0.n) && decide (x0.n < (x1.length : Int))) then
      (self112 (listAt x1 (Ty.dflt (.st 1)) x0.n.toNat) x1).bind fun y74 =>
      k y74
    else none
  else k ([] : LS)
def f112.b {R : Type} (L N : Nat) (self112 : Tree → LT → Option (LS)) (k : LS → Option R) (x0 : Tree) (x1 : LT) : Option R :=
  f112.b' L N self112 k (fun s4 s5 s6 s7 s8 s9 s10 => f112.l0 L N self112 (fun z11 z12 z13 z14 z15 z16 => f112.p0_e1 L N self112 k z11 z12 z13 z14 z15 z16) L s4 s5 s6 s7 s8 s9 s10) (fun s53 s54 s55 s56 s57 s58 => f112.l4 L N self112 (fun z59 => f112.p4_e9 L N self112 k z59) L s53 s54 s55 s56 s57 s58) x0 x1
def f112 (L N : Nat) : Nat → Tree → LT → Option (LS)
  | 0, _, _ => none
  | n + 1, x0, x1 => f112.b L N (f112 L N n) some x0 x1
def f112.ent (L N m : Nat) (args : List AV) (vw : View) (site : Nat) : Ans := match coeD [(.st 1), (.sl (.st 1))] vw args with
  | some (d, u) => ⟨LS, f112 L N m d.1 d.2.1, fun y => (.row site, u ++ [(site, some (.row 125 (.st 3) y))], [])⟩
  | none => Ans.no
def Φ112s (L N m : Nat) : Tells := (addT (Φ111 L N) 112 (f112.ent L N m))
noncomputable def E112 (L N m : Nat) : Env := { P := Try.prog, ty := tyOf, Φ := Φ112s L N m, inl := inlT, live := lives, liveX := livesX, L := L, dp := none, prom := promT, heal := healT, ren := renT }
noncomputable def f112.c0 : Code := loopAt 1 (codeOf Try.f112)
theorem f112.s0_eq {R : Type} (L N m : Nat) (κ : Ex → T → H → Option R) (rec : T → H → Option R) (s4 : Int) (s5 : Int) (s6 : Int) (s7 : LT) (s8 : LS) (s9 : LS) (s10 : LS) :
    evRd (E112 L N m) (evCallI (E112 L N m) 0 1000) 1000 112 217 1 f112.c0 κ rec (f112.T0 s4 s5 s6 s7 s8 s9 s10) (f112.H0 s4 s5 s6 s7 s8 s9 s10)
    = f112.s0 L N (f112 L N m) (fun z11 z12 z13 z14 z15 z16 => κ (.exit 1) (f112.T0_e1 z11 z12 z13 z14 z15 z16) (f112.H0_e1 z11 z12 z13 z14 z15 z16)) (fun s4 s5 s6 s7 s8 s9 s10 => rec (f112.T0 s4 s5 s6 s7 s8 s9 s10) (f112.H0 s4 s5 s6 s7 s8 s9 s10)) s4 s5 s6 s7 s8 s9 s10 := by kernel_rfl
theorem f112.l0_eq {R : Type} (L N m : Nat) (κ : Ex → T → H → Option R) : ∀ (n : Nat) (s4 : Int) (s5 : Int) (s6 : Int) (s7 : LT) (s8 : LS) (s9 : LS) (s10 : LS),
    evLp (E112 L N m) (evCallI (E112 L N m) 0 1000) 1000 112 217 1 f112.c0 κ n (f112.T0 s4 s5 s6 s7 s8 s9 s10) (f112.H0 s4 s5 s6 s7 s8 s9 s10)
    = f112.l0 L N (f112 L N m) (fun z11 z12 z13 z14 z15 z16 => κ (.exit 1) (f112.T0_e1 z11 z12 z13 z14 z15 z16) (f112.H0_e1 z11 z12 z13 z14 z15 z16)) n s4 s5 s6 s7 s8 s9 s10 := by
  intro n
  induction n with
  | zero => intros; rfl
  | succ n ih =>
    intro s4 s5 s6 s7 s8 s9 s10
    rw [evLp_succ, f112.s0_eq]
    simp only [ih]
    rfl
noncomputable def f112.c1 : Code := loopAt 3 (codeOf Try.f112)
theorem f112.s1_eq {R : Type} (L N m : Nat) (κ : Ex → T → H → Option R) (rec : T → H → Option R) (s17 : Int) (s18 : Int) (s19 : Int) (s20 : LT) (s21 : LS) (s22 : LS) (s23 : LS) :
    evRd (E112 L N m) (evCallI (E112 L N m) 0 1000) 1000 112 217 3 f112.c1 κ rec (f112.T1 s17 s18 s19 s20 s21 s22 s23) (f112.H1 s17 s18 s19 s20 s21 s22 s23)
    = f112.s1 L N (f112 L N m) (fun z24 z25 z26 => κ (.exit 3) (f112.T1_e3 z24 z25 z26) (f112.H1_e3 z24 z25 z26)) (fun s17 s18 s19 s20 s21 s22 s23 => rec (f112.T1 s17 s18 s19 s20 s21 s22 s23) (f112.H1 s17 s18 s19 s20 s21 s22 s23)) s17 s18 s19 s20 s21 s22 s23 := by kernel_rfl
theorem f112.l1_eq {R : Type} (L N m : Nat) (κ : Ex → T → H → Option R) : ∀ (n : Nat) (s17 : Int) (s18 : Int) (s19 : Int) (s20 : LT) (s21 : LS) (s22 : LS) (s23 : LS),
    evLp (E112 L N m) (evCallI (E112 L N m) 0 1000) 1000 112 217 3 f112.c1 κ n (f112.T1 s17 s18 s19 s20 s21 s22 s23) (f112.H1 s17 s18 s19 s20 s21 s22 s23)
    = f112.l1 L N (f112 L N m) (fun z24 z25 z26 => κ (.exit 3) (f112.T1_e3 z24 z25 z26) (f112.H1_e3 z24 z25 z26)) n s17 s18 s19 s20 s21 s22 s23 := by
  intro n
  induction n with
  | zero => intros; rfl
  | succ n ih =>
    intro s17 s18 s19 s20 s21 s22 s23
    rw [evLp_succ, f112.s1_eq]
    simp only [ih]
    rfl
noncomputable def f112.c2 : Code := loopAt 5 (codeOf Try.f112)
noncomputable def f112.c3 : Code := loopAt 7 f112.c2
theorem f112.s3_eq {R : Type} (L N m : Nat) (κ : Ex → T → H → Option R) (rec : T → H → Option R) (s32 : Int) (s33 : Int) (s34 : LS) (s35 : LS) (s36 : LS) :
    evRd (E112 L N m) (evCallI (E112 L N m) 0 1000) 1000 112 217 7 f112.c3 κ rec (f112.T3 s32 s33 s34 s35 s36) (f112.H3 s32 s33 s34 s35 s36)
    = f112.s3 L N (f112 L N m) (fun z37 z38 z39 z40 => κ (.exit 7) (f112.T3_e7 z37 z38 z39 z40) (f112.H3_e7 z37 z38 z39 z40)) (fun s32 s33 s34 s35 s36 => rec (f112.T3 s32 s33 s34 s35 s36) (f112.H3 s32 s33 s34 s35 s36)) s32 s33 s34 s35 s36 := by kernel_rfl
theorem f112.l3_eq {R : Type} (L N m : Nat) (κ : Ex → T → H → Option R) : ∀ (n : Nat) (s32 : Int) (s33 : Int) (s34 : LS) (s35 : LS) (s36 : LS),
    evLp (E112 L N m) (evCallI (E112 L N m) 0 1000) 1000 112 217 7 f112.c3 κ n (f112.T3 s32 s33 s34 s35 s36) (f112.H3 s32 s33 s34 s35 s36)
    = f112.l3 L N (f112 L N m) (fun z37 z38 z39 z40 => κ (.exit 7) (f112.T3_e7 z37 z38 z39 z40) (f112.H3_e7 z37 z38 z39 z40)) n s32 s33 s34 s35 s36 := by
  intro n
  induction n with
  | zero => intros; rfl
  | succ n ih =>
    intro s32 s33 s34 s35 s36
    rw [evLp_succ, f112.s3_eq]
    simp only [ih]
    rfl
theorem f112.p3_e7_eq {R : Type} (L N m : Nat) (κ : Ex → T → H → Option R) (rec : T → H → Option R) (z37 : Int) (z38 : LS) (z39 : LS) (z40 : LS) :
    (contAt (E112 L N m) (evCallI (E112 L N m) 0 1000) 1000 112 217 7 f112.c2 (rdK (E112 L N m) 1000 112 217 5 κ rec)) (.exit 7) (f112.T3_e7 z37 z38 z39 z40) (f112.H3_e7 z37 z38 z39 z40)
    = f112.p3_e7 L N (f112 L N m) (fun z31 => κ (.exit 5) (f112.T2_e5 z31) (f112.H2_e5 z31)) (fun s27 s28 s29 s30 => rec (f112.T2 s27 s28 s29 s30) (f112.H2 s27 s28 s29 s30)) z37 z38 z39 z40 := by kernel_rfl
theorem f112.s2_eq {R : Type} (L N m : Nat) (κ : Ex → T → H → Option R) (rec : T → H → Option R) (s27 : Int) (s28 : LS) (s29 : LS) (s30 : LS) :
    evRd (E112 L N m) (evCallI (E112 L N m) 0 1000) 1000 112 217 5 f112.c2 κ rec (f112.T2 s27 s28 s29 s30) (f112.H2 s27 s28 s29 s30)
    = f112.s2 L N (f112 L N m) (fun z31 => κ (.exit 5) (f112.T2_e5 z31) (f112.H2_e5 z31)) (fun s27 s28 s29 s30 => rec (f112.T2 s27 s28 s29 s30) (f112.H2 s27 s28 s29 s30)) s27 s28 s29 s30 := by
  refine Eq.trans (b := f112.s2' L N (f112 L N m) (fun z31 => κ (.exit 5) (f112.T2_e5 z31) (f112.H2_e5 z31)) (fun s27 s28 s29 s30 => rec (f112.T2 s27 s28 s29 s30) (f112.H2 s27 s28 s29 s30)) (fun s32 s33 s34 s35 s36 => evLp (E112 L N m) (evCallI (E112 L N m) 0 1000) 1000 112 217 7 f112.c3 (contAt (E112 L N m) (evCallI (E112 L N m) 0 1000) 1000 112 217 7 f112.c2 (rdK (E112 L N m) 1000 112 217 5 κ rec)) L (f112.T3 s32 s33 s34 s35 s36) (f112.H3 s32 s33 s34 s35 s36)) s27 s28 s29 s30) (by kernel_rfl) ?_
  unfold f112.s2
  simp only [f112.l3_eq, f112.p3_e7_eq]
theorem f112.l2_eq {R : Type} (L N m : Nat) (κ : Ex → T → H → Option R) : ∀ (n : Nat) (s27 : Int) (s28 : LS) (s29 : LS) (s30 : LS),
    evLp (E112 L N m) (evCallI (E112 L N m) 0 1000) 1000 112 217 5 f112.c2 κ n (f112.T2 s27 s28 s29 s30) (f112.H2 s27 s28 s29 s30)
    = f112.l2 L N (f112 L N m) (fun z31 => κ (.exit 5) (f112.T2_e5 z31) (f112.H2_e5 z31)) n s27 s28 s29 s30 := by
  intro n
  induction n with
  | zero => intros; rfl
  | succ n ih =>
    intro s27 s28 s29 s30
    rw [evLp_succ, f112.s2_eq]
    simp only [ih]
    rfl
theorem f112.p2_e5_eq {R : Type} (L N m : Nat) (κ : List Step → Option R) (z31 : LS) :
    (contAt (E112 L N m) (evCallI (E112 L N m) 0 1000) 1000 112 217 5 (codeOf Try.f112) (finK (E112 L N m) 1000 Try.f112 (finRow 125 (.st 3) κ))) (.exit 5) (f112.T2_e5 z31) (f112.H2_e5 z31)
    = f112.p2_e5 L N (f112 L N m) κ z31 := by kernel_rfl
theorem f112.p1_e3_eq {R : Type} (L N m : Nat) (κ : List Step → Option R) (z24 : LS) (z25 : LS) (z26 : LS) :
    (contAt (E112 L N m) (evCallI (E112 L N m) 0 1000) 1000 112 217 3 (codeOf Try.f112) (finK (E112 L N m) 1000 Try.f112 (finRow 125 (.st 3) κ))) (.exit 3) (f112.T1_e3 z24 z25 z26) (f112.H1_e3 z24 z25 z26)
    = f112.p1_e3 L N (f112 L N m) κ z24 z25 z26 := by
  refine Eq.trans (b := f112.p1_e3' L N (f112 L N m) κ (fun s27 s28 s29 s30 => evLp (E112 L N m) (evCallI (E112 L N m) 0 1000) 1000 112 217 5 f112.c2 (contAt (E112 L N m) (evCallI (E112 L N m) 0 1000) 1000 112 217 5 (codeOf Try.f112) (finK (E112 L N m) 1000 Try.f112 (finRow 125 (.st 3) κ))) L (f112.T2 s27 s28 s29 s30) (f112.H2 s27 s28 s29 s30)) z24 z25 z26) (by kernel_rfl) ?_
  unfold f112.p1_e3
  simp only [f112.l2_eq, f112.p2_e5_eq]
theorem f112.p0_e1_eq {R : Type} (L N m : Nat) (κ : List Step → Option R) (z11 : Int) (z12 : Int) (z13 : LT) (z14 : LS) (z15 : LS) (z16 : LS) :
    (contAt (E112 L N m) (evCallI (E112 L N m) 0 1000) 1000 112 217 1 (codeOf Try.f112) (finK (E112 L N m) 1000 Try.f112 (finRow 125 (.st 3) κ))) (.exit 1) (f112.T0_e1 z11 z12 z13 z14 z15 z16) (f112.H0_e1 z11 z12 z13 z14 z15 z16)
    = f112.p0_e1 L N (f112 L N m) κ z11 z12 z13 z14 z15 z16 := by
  refine Eq.trans (b := f112.p0_e1' L N (f112 L N m) κ (fun s17 s18 s19 s20 s21 s22 s23 => evLp (E112 L N m) (evCallI (E112 L N m) 0 1000) 1000 112 217 3 f112.c1 (contAt (E112 L N m) (evCallI (E112 L N m) 0 1000) 1000 112 217 3 (codeOf Try.f112) (finK (E112 L N m) 1000 Try.f112 (finRow 125 (.st 3) κ))) L (f112.T1 s17 s18 s19 s20 s21 s22 s23) (f112.H1 s17 s18 s19 s20 s21 s22 s23)) z11 z12 z13 z14 z15 z16) (by kernel_rfl) ?_
  unfold f112.p0_e1
  simp only [f112.l1_eq, f112.p1_e3_eq]
noncomputable def f112.c4 : Code := loopAt 9 (codeOf Try.f112)
theorem f112.s4_eq {R : Type} (L N m : Nat) (κ : Ex → T → H → Option R) (rec : T → H → Option R) (s53 : Int) (s54 : Int) (s55 : Int) (s56 : LT) (s57 : LS) (s58 : LS) :
    evRd (E112 L N m) (evCallI (E112 L N m) 0 1000) 1000 112 217 9 f112.c4 κ rec (f112.T4 s53 s54 s55 s56 s57 s58) (f112.H4 s53 s54 s55 s56 s57 s58)
    = f112.s4 L N (f112 L N m) (fun z59 => κ (.exit 9) (f112.T4_e9 z59) (f112.H4_e9 z59)) (fun s53 s54 s55 s56 s57 s58 => rec (f112.T4 s53 s54 s55 s56 s57 s58) (f112.H4 s53 s54 s55 s56 s57 s58)) s53 s54 s55 s56 s57 s58 := by kernel_rfl
theorem f112.l4_eq {R : Type} (L N m : Nat) (κ : Ex → T → H → Option R) : ∀ (n : Nat) (s53 : Int) (s54 : Int) (s55 : Int) (s56 : LT) (s57 : LS) (s58 : LS),
    evLp (E112 L N m) (evCallI (E112 L N m) 0 1000) 1000 112 217 9 f112.c4 κ n (f112.T4 s53 s54 s55 s56 s57 s58) (f112.H4 s53 s54 s55 s56 s57 s58)
    = f112.l4 L N (f112 L N m) (fun z59 => κ (.exit 9) (f112.T4_e9 z59) (f112.H4_e9 z59)) n s53 s54 s55 s56 s57 s58 := by
  intro n
  induction n with
  | zero => intros; rfl
  | succ n ih =>
    intro s53 s54 s55 s56 s57 s58
    rw [evLp_succ, f112.s4_eq]
    simp only [ih]
    rfl
theorem f112.p4_e9_eq {R : Type} (L N m : Nat) (κ : List Step → Option R) (z59 : LS) :
    (contAt (E112 L N m) (evCallI (E112 L N m) 0 1000) 1000 112 217 9 (codeOf Try.f112) (finK (E112 L N m) 1000 Try.f112 (finRow 125 (.st 3) κ))) (.exit 9) (f112.T4_e9 z59) (f112.H4_e9 z59)
    = f112.p4_e9 L N (f112 L N m) κ z59 := by kernel_rfl
theorem f112.b_eq {R : Type} (L N m : Nat) (κ : List Step → Option R) (x0 : Tree) (x1 : LT) :
    evBody (E112 L N m) (evCallI (E112 L N m) 0 1000) 1000 112 Try.f112 [(.tv (.st 1) x0), (.tv (.sl (.st 1)) x1)] [] [] (finRow 125 (.st 3) κ)
    = f112.b L N (f112 L N m) κ x0 x1 := by
  refine Eq.trans (b := f112.b' L N (f112 L N m) κ (fun s4 s5 s6 s7 s8 s9 s10 => evLp (E112 L N m) (evCallI (E112 L N m) 0 1000) 1000 112 217 1 f112.c0 (contAt (E112 L N m) (evCallI (E112 L N m) 0 1000) 1000 112 217 1 (codeOf Try.f112) (finK (E112 L N m) 1000 Try.f112 (finRow 125 (.st 3) κ))) L (f112.T0 s4 s5 s6 s7 s8 s9 s10) (f112.H0 s4 s5 s6 s7 s8 s9 s10)) (fun s53 s54 s55 s56 s57 s58 => evLp (E112 L N m) (evCallI (E112 L N m) 0 1000) 1000 112 217 9 f112.c4 (contAt (E112 L N m) (evCallI (E112 L N m) 0 1000) 1000 112 217 9 (codeOf Try.f112) (finK (E112 L N m) 1000 Try.f112 (finRow 125 (.st 3) κ))) L (f112.T4 s53 s54 s55 s56 s57 s58) (f112.H4 s53 s54 s55 s56 s57 s58)) x0 x1) (by kernel_rfl) ?_
  unfold f112.b
  simp only [f112.l0_eq, f112.l4_eq, f112.p0_e1_eq, f112.p4_e9_eq]
theorem f112.ok (L N m : Nat) (hΦ : TellsOk Try.prog (Φ112s L N m)) : EntOk Try.prog 112 (f112.ent L N (m + 1)) := by
  intro args vw site h
  unfold f112.ent
  split
  · rename_i d u ha
    intro y hy hs
    refine call_row (dep := 1000) (E := (E112 L N m)) (sound_of hΦ) okP (callI_sound (sound_of hΦ) okP 0 1000) (f := Try.f112) rfl hs ha ?_ site
    exact (f112.b_eq L N m some d.1 d.2.1).trans hy
  · intro y hy
    cases hy
theorem Φ112s_ok (L N : Nat) : ∀ m, TellsOk Try.prog (Φ112s L N m) := by
  intro m
  induction m with
  | zero => exact (addT_ok (Φ111_ok L N) (fun args vw site h => by unfold f112.ent; split <;> (intro y hy; cases hy)))
  | succ m ih => exact (addT_ok (Φ111_ok L N) (f112.ok L N m ih))
def Φ112 (L N : Nat) : Tells := (addT (Φ111 L N) 112 (f112.ent L N N))
theorem Φ112_ok (L N : Nat) : TellsOk Try.prog (Φ112 L N) := Φ112s_ok L N N
def f105.s2' {R : Type} (L N : Nat) (k2_e4 : LT → Int → Int → ByteArray → Int → LT → LY → LS → LM → LLM → Option R) (rec2 : LT → Int → Int → ByteArray → Int → LT → LY → LS → LM → LLM → Option R) (s23 : LT) (s24 : Int) (s25 : Int) (s26 : ByteArray) (s27 : Int) (s28 : LT) (s29 : LY) (s30 : LS) (s31 : LM) (s32 : LLM) : Option R :=
  bif (decide (s27 < (s29.length : Int))) then
    bif (decide (0 ≤ s27) && decide (s27 < (s29.length : Int))) then
      bif (!((listAt s29 ByteArray.empty s27.toNat).toList == s26.toList)) then
        rec2 s23 s24 s25 s26 (wi (s27 + (1 : Int))) s28 s29 s30 s31 s32
      else k2_e4 s23 s24 s25 s26 s27 s28 s29 s30 s31 s32
    else none
  else k2_e4 s23 s24 s25 s26 s27 s28 s29 s30 s31 s32
def f105.s2 {R : Type} (L N : Nat) (k2_e4 : LT → Int → Int → ByteArray → Int → LT → LY → LS → LM → LLM → Option R) (rec2 : LT → Int → Int → ByteArray → Int → LT → LY → LS → LM → LLM → Option R) (s23 : LT) (s24 : Int) (s25 : Int) (s26 : ByteArray) (s27 : Int) (s28 : LT) (s29 : LY) (s30 : LS) (s31 : LM) (s32 : LLM) : Option R :=
  f105.s2' L N k2_e4 rec2 s23 s24 s25 s26 s27 s28 s29 s30 s31 s32
def f105.l2 {R : Type} (L N : Nat) (k2_e4 : LT → Int → Int → ByteArray → Int → LT → LY → LS → LM → LLM → Option R) : Nat → LT → Int → Int → ByteArray → Int → LT → LY → LS → LM → LLM → Option R
  | 0, _, _, _, _, _, _, _, _, _, _ => none
  | n + 1, s23, s24, s25, s26, s27, s28, s29, s30, s31, s32 => f105.s2 L N k2_e4 (f105.l2 L N k2_e4 n) s23 s24 s25 s26 s27 s28 s29 s30 s31 s32
def f105.T2 (s23 : LT) (s24 : Int) (s25 : Int) (s26 : ByteArray) (s27 : Int) (s28 : LT) (s29 : LY) (s30 : LS) (s31 : LM) (s32 : LLM) : T := mkT 106 [(1, (.tv (.sl (.st 1)) s23)), (4, (.ptr 1004 0)), (6, (.row 1016)), (7, (.row 1019)), (8, (.ptr 1008 0)), (9, (.tv i64 s24)), (10, (.row 1032)), (11, (.row 1033)), (12, (.tv i64 s25)), (13, (.tv .str s26)), (14, (.tv i64 s27))]
def f105.H2 (s23 : LT) (s24 : Int) (s25 : Int) (s26 : ByteArray) (s27 : Int) (s28 : LT) (s29 : LY) (s30 : LS) (s31 : LM) (s32 : LLM) : H := [(1004, (.box [.nil])), (1008, (.box [(.row 1900)])), (1016, (.row 102 (.st 1) s28)), (1019, (.row 9 .str s29)), (1032, (.row 125 (.st 3) s30)), (1033, (.row 64 (.st 0) s31)), (1900, (.row 62 (.sl (.st 0)) s32))]
def f105.T2_e4 (z44 : LT) (z45 : Int) (z46 : Int) (z47 : ByteArray) (z48 : Int) (z49 : LT) (z50 : LY) (z51 : LS) (z52 : LM) (z53 : LLM) : T := mkT 106 [(1, (.tv (.sl (.st 1)) z44)), (4, (.ptr 1004 0)), (6, (.row 1016)), (7, (.row 1019)), (8, (.ptr 1008 0)), (9, (.tv i64 z45)), (10, (.row 1032)), (11, (.row 1033)), (12, (.tv i64 z46)), (13, (.tv .str z47)), (14, (.tv i64 z48))]
def f105.H2_e4 (z44 : LT) (z45 : Int) (z46 : Int) (z47 : ByteArray) (z48 : Int) (z49 : LT) (z50 : LY) (z51 : LS) (z52 : LM) (z53 : LLM) : H := [(1004, (.box [.nil])), (1008, (.box [(.row 1900)])), (1016, (.row 102 (.st 1) z49)), (1019, (.row 9 .str z50)), (1032, (.row 125 (.st 3) z51)), (1033, (.row 64 (.st 0) z52)), (1900, (.row 62 (.sl (.st 0)) z53))]
def f105.j1' {R : Type} (L N : Nat) (k1_e2 : LT → Int → LT → LY → LM → LLM → Option R) (k1_r : LT → Bool → Int → LT → LY → LM → LLM → Option R) (rec1 : LT → Int → Int → LT → LY → LS → LM → LLM → Option R) (v93 : LT) (v94 : Int) (v95 : Int) (v96 : Int) (v97 : LT) (v98 : LY) (v99 : LS) (v100 : LM) (v101 : LLM) : Option R :=
  bif (decide (0 ≤ v95) && decide (v95 < (v99.length : Int))) then
    bif (decide (v100.length + ([(Move.mk ((listAt v99 (Ty.dflt (.st 3)) v95.toNat).act) v96)] : LM).length ≤ lim)) then
      rec1 v93 v94 (wi (v95 + (1 : Int))) v97 v98 v99 (v100 ++ ([(Move.mk ((listAt v99 (Ty.dflt (.st 3)) v95.toNat).act) v96)] : LM)) v101
    else none
  else none
def f105.j0' {R : Type} (L N : Nat) (k1_e2 : LT → Int → LT → LY → LM → LLM → Option R) (k1_r : LT → Bool → Int → LT → LY → LM → LLM → Option R) (rec1 : LT → Int → Int → LT → LY → LS → LM → LLM → Option R) (v83 : LT) (v84 : Int) (v85 : Int) (v86 : ByteArray) (v87 : Int) (v88 : LT) (v89 : LY) (v90 : LS) (v91 : LM) (v92 : LLM) : Option R :=
  bif (decide (0 ≤ v85) && decide (v85 < (v90.length : Int))) then
    bif (decide (v88.length + ([(Tree.mk ((listAt v90 (Ty.dflt (.st 3)) v85.toNat).thn.op) ((listAt v90 (Ty.dflt (.st 3)) v85.toNat).thn.n) ((listAt v90 (Ty.dflt (.st 3)) v85.toNat).thn.parts))] : LT).length ≤ lim)) then
      bif (decide (v89.length + ([v86] : LY).length ≤ lim)) then
        f105.j1' L N k1_e2 k1_r rec1 v83 v84 v85 v87 (v88 ++ ([(Tree.mk ((listAt v90 (Ty.dflt (.st 3)) v85.toNat).thn.op) ((listAt v90 (Ty.dflt (.st 3)) v85.toNat).thn.n) ((listAt v90 (Ty.dflt (.st 3)) v85.toNat).thn.parts))] : LT)) (v89 ++ ([v86] : LY)) v90 v91 v92
      else none
    else none
  else none
end Go.Proofs.Ythkonljgjjlloaa.Ev
