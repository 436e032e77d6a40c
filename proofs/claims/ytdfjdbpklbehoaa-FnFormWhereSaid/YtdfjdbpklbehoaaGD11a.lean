/- The seat's functions as plain functions: made by program (wip/gen/gen.py). -/
import Derived.Test.YtdfjdbpklbehoaaEvYa
import Derived.Test.YtdfjdbpklbehoaaShelf
namespace Go.Proofs.Ytdfjdbpklbehoaa.Ev
open Go
set_option linter.unusedVariables false
set_option maxRecDepth 20000
def tyTab : List (Nat × Ty) := [(2, i64), (3, i64), (4, .bool), (5, (.int .u8)), (6, (.int .u8)), (9, .str), (10, .str), (11, .str), (12, (.int .u64)), (21, (.int .i32)), (22, (.sl (.sl (.st 0)))), (23, (.st 2)), (24, (.st 2)), (25, (.sl (.st 1))), (26, (.st 1)), (27, (.st 1)), (30, (.sl i64)), (32, (.sl (.sl (.st 0)))), (33, (.st 2)), (34, (.st 2)), (36, (.sl (.st 1))), (37, (.st 1)), (38, (.st 1)), (47, (.sl (.int .u8))), (51, (.sl (.st 0))), (52, (.st 0)), (53, (.st 0)), (71, (.sl .bool)), (88, (.sl (.sl i64))), (98, (.sl (.st 0))), (103, (.sl (.sl .bool))), (108, (.sl (.st 1))), (109, (.st 1)), (110, (.st 1)), (129, (.st 0)), (142, (.sl .str)), (143, (.sl (.st 3))), (146, (.st 3)), (151, (.int .u64)), (159, i64), (168, (.int .u32)), (170, (.int .u64)), (177, (.int .u64)), (196, (.int .u8)), (197, (.int .u8)), (200, (.int .i32)), (201, (.int .i32))]
def tyOf (t : Nat) : Option Ty := tyFind t tyTab
def lives (f i : Nat) : List Nat × List Nat :=
  bif Nat.beq f 11 && Nat.beq i 0 then ([4, 5, 7, 8, 9, 10], [4, 8, 21, 30, 32, 36]) else
  bif Nat.beq f 17 && Nat.beq i 0 then ([5, 6, 7], [8]) else
  bif Nat.beq f 20 && Nat.beq i 0 then ([5, 20, 21, 22], [8]) else
  bif Nat.beq f 31 && Nat.beq i 0 then ([0, 1, 5], []) else
  bif Nat.beq f 32 && Nat.beq i 0 then ([1, 18, 19, 20], [1]) else
  bif Nat.beq f 32 && Nat.beq i 2 then ([1, 4, 18, 19, 20, 24, 25, 26], [1]) else
  bif Nat.beq f 33 && Nat.beq i 0 then ([0, 1, 5], []) else
  bif Nat.beq f 34 && Nat.beq i 0 then ([0, 3], []) else
  bif Nat.beq f 58 && Nat.beq i 0 then ([1, 3], [1]) else
  bif Nat.beq f 58 && Nat.beq i 2 then ([1, 3, 4], [1]) else
  bif Nat.beq f 60 && Nat.beq i 0 then ([2, 3, 5, 6, 7, 8], [2, 3, 13]) else
  bif Nat.beq f 60 && Nat.beq i 3 then ([2, 3, 5, 6, 7, 8, 9], [2, 3, 13]) else
  bif Nat.beq f 63 && Nat.beq i 0 then ([2, 3, 5, 6, 18, 19, 20], [2, 3, 15, 16]) else
  bif Nat.beq f 63 && Nat.beq i 2 then ([2, 3, 5, 6, 32, 33], [2, 3, 15, 16]) else
  bif Nat.beq f 63 && Nat.beq i 5 then ([2, 3, 5, 6, 9, 32, 33, 42, 43, 44], [2, 3, 15, 16]) else
  bif Nat.beq f 81 && Nat.beq i 0 then ([3, 5], [3, 10]) else
  bif Nat.beq f 92 && Nat.beq i 0 then ([1, 5, 9, 10, 11], []) else
  bif Nat.beq f 93 && Nat.beq i 1 then ([38, 39, 40], []) else
  bif Nat.beq f 99 && Nat.beq i 0 then ([1, 4, 5], [1]) else
  bif Nat.beq f 105 && Nat.beq i 0 then ([0, 4, 5, 6, 7, 8], [4, 5, 900, 901]) else
  bif Nat.beq f 105 && Nat.beq i 2 then ([0, 4, 5, 6, 7, 8, 9, 10], [4, 5, 25, 900, 901]) else
  bif Nat.beq f 117 && Nat.beq i 0 then ([0, 1, 5, 6, 16, 17], [11, 14]) else
  bif Nat.beq f 117 && Nat.beq i 2 then ([0, 1, 5, 6, 7, 8, 16, 17], [11, 14]) else
  bif Nat.beq f 119 && Nat.beq i 0 then ([0, 1, 12, 13], []) else
  bif Nat.beq f 123 && Nat.beq i 0 then ([0, 3, 4], [7]) else
  bif Nat.beq f 123 && Nat.beq i 2 then ([0, 3, 4, 5], [7]) else
  bif Nat.beq f 123 && Nat.beq i 4 then ([0, 3, 4, 5, 6], [7]) else
  bif Nat.beq f 130 && Nat.beq i 0 then ([0, 3, 4, 5], [8]) else
  bif Nat.beq f 133 && Nat.beq i 0 then ([1, 4, 6, 7, 8, 9], [4, 8, 16, 19, 900]) else
  bif Nat.beq f 133 && Nat.beq i 2 then ([1, 4, 6, 7, 8, 9, 10, 11, 12], [4, 8, 16, 19, 32, 33, 900]) else
  bif Nat.beq f 133 && Nat.beq i 4 then ([1, 4, 6, 7, 8, 9, 10, 11, 12, 13, 14], [4, 8, 16, 19, 32, 33, 900]) else
  bif Nat.beq f 142 && Nat.beq i 0 then ([0, 1, 12, 13], []) else
  bif Nat.beq f 145 && Nat.beq i 0 then ([0, 6, 14, 15, 16], [9]) else
  bif Nat.beq f 148 && Nat.beq i 0 then ([0, 3], []) else
  bif Nat.beq f 150 && Nat.beq i 1 then ([1, 3, 4], [1]) else
  bif Nat.beq f 151 && Nat.beq i 1 then ([2, 5, 6, 7, 8], [2, 14, 51, 57]) else
  bif Nat.beq f 151 && Nat.beq i 3 then ([2, 5, 6, 7, 9], [2, 14, 51, 57]) else
  bif Nat.beq f 151 && Nat.beq i 5 then ([5, 6, 7, 10], [14, 51, 57]) else
  bif Nat.beq f 151 && Nat.beq i 7 then ([5, 6, 7, 10, 11], [14, 51, 57]) else
  bif Nat.beq f 151 && Nat.beq i 9 then ([2, 5, 12, 13], [2, 14, 165]) else
  bif Nat.beq f 152 && Nat.beq i 1 then ([1, 3, 5, 6], [1]) else
  bif Nat.beq f 158 && Nat.beq i 0 then ([1, 2, 5, 6], [2]) else
  ([], [])
def livesX (f i : Nat) : List Nat × List Nat :=
  bif Nat.beq f 11 && Nat.beq i 0 then ([2, 5], [21]) else
  bif Nat.beq f 17 && Nat.beq i 0 then ([5], [8]) else
  bif Nat.beq f 20 && Nat.beq i 0 then ([5], [8]) else
  bif Nat.beq f 31 && Nat.beq i 0 then ([4], []) else
  bif Nat.beq f 32 && Nat.beq i 0 then ([2], []) else
  bif Nat.beq f 32 && Nat.beq i 2 then ([1, 2, 18, 19, 20], [1]) else
  bif Nat.beq f 33 && Nat.beq i 0 then ([4], []) else
  bif Nat.beq f 34 && Nat.beq i 0 then ([2], []) else
  bif Nat.beq f 58 && Nat.beq i 0 then ([2], []) else
  bif Nat.beq f 58 && Nat.beq i 2 then ([1, 2, 3], [1]) else
  bif Nat.beq f 60 && Nat.beq i 0 then ([5], [13]) else
  bif Nat.beq f 60 && Nat.beq i 3 then ([2, 3, 5, 6, 7, 8], [2, 3, 13]) else
  bif Nat.beq f 63 && Nat.beq i 0 then ([2, 3, 5, 6], [2, 3, 15, 16]) else
  bif Nat.beq f 63 && Nat.beq i 2 then ([5], [15]) else
  bif Nat.beq f 63 && Nat.beq i 5 then ([2, 3, 5, 6, 32, 33], [2, 3, 15, 16]) else
  bif Nat.beq f 81 && Nat.beq i 0 then ([4], [10]) else
  bif Nat.beq f 92 && Nat.beq i 0 then ([4, 5], []) else
  bif Nat.beq f 93 && Nat.beq i 1 then ([2], []) else
  bif Nat.beq f 99 && Nat.beq i 0 then ([2, 4], []) else
  bif Nat.beq f 105 && Nat.beq i 0 then ([0, 4, 5, 6], [4, 5, 900, 901]) else
  bif Nat.beq f 105 && Nat.beq i 2 then ([0, 4, 5, 6, 7, 8, 9], [4, 5, 25, 900, 901]) else
  bif Nat.beq f 117 && Nat.beq i 0 then ([5], [11]) else
  bif Nat.beq f 117 && Nat.beq i 2 then ([0, 1, 5, 6, 16, 17], [11, 14]) else
  bif Nat.beq f 119 && Nat.beq i 0 then ([4], []) else
  bif Nat.beq f 123 && Nat.beq i 0 then ([3], [7]) else
  bif Nat.beq f 123 && Nat.beq i 2 then ([0, 3, 4, 5], [7]) else
  bif Nat.beq f 123 && Nat.beq i 4 then ([0, 3, 4, 5], [7]) else
  bif Nat.beq f 130 && Nat.beq i 0 then ([0, 3, 4], [8]) else
  bif Nat.beq f 133 && Nat.beq i 0 then ([4, 5, 8], [4, 8, 900]) else
  bif Nat.beq f 133 && Nat.beq i 2 then ([1, 4, 5, 6, 7, 8, 9, 11], [4, 8, 16, 19, 33, 900]) else
  bif Nat.beq f 133 && Nat.beq i 4 then ([1, 4, 6, 7, 8, 9, 10, 11, 12, 13, 14], [4, 8, 16, 19, 32, 33, 900]) else
  bif Nat.beq f 142 && Nat.beq i 0 then ([4], []) else
  bif Nat.beq f 145 && Nat.beq i 0 then ([6], [9]) else
  bif Nat.beq f 148 && Nat.beq i 0 then ([0, 2], []) else
  bif Nat.beq f 150 && Nat.beq i 1 then ([3], []) else
  bif Nat.beq f 151 && Nat.beq i 1 then ([2, 5, 6, 7], [2, 14, 51, 57]) else
  bif Nat.beq f 151 && Nat.beq i 3 then ([5, 6, 7], [14, 51, 57]) else
  bif Nat.beq f 151 && Nat.beq i 5 then ([5], [14]) else
  bif Nat.beq f 151 && Nat.beq i 7 then ([5, 6, 7, 10], [14, 51, 57]) else
  bif Nat.beq f 151 && Nat.beq i 9 then ([5], [14]) else
  bif Nat.beq f 152 && Nat.beq i 1 then ([2, 5], []) else
  bif Nat.beq f 158 && Nat.beq i 0 then ([5], []) else
  ([], [])
def promT (f i : Nat) : List (Nat × Nat × Nat × Option Nat × Nat × Ty) :=
  bif Nat.beq f 105 && Nat.beq i 0 then [(4, 0, 900, (some 0), 0, (.sl (.st 0))), (5, 0, 901, (some 0), 0, (.sl (.st 0)))] else
  bif Nat.beq f 133 && Nat.beq i 0 then [(8, 0, 900, none, 51, (.sl (.st 0)))] else
  []
def healT (f i : Nat) : List Nat :=
  []
def renT (f i : Nat) : List (Nat × Nat) :=
  []
def inlT (f : Nat) : Bool := memN f [24, 25]
theorem okP : OkP Try.prog := OkP.mk' (by kernel_rfl) (by kernel_rfl)
def Φx (L N : Nat) : Tells := addT (addT (addT noTells 141 sortEnt) 120 tidyEnt) 84 (cloneEnt 3)
theorem Φx_ok (L N : Nat) : TellsOk Try.prog (Φx L N) := addT_ok (addT_ok (addT_ok (no_ok _) (sort_ok ⟨Try.f141, rfl, by kernel_rfl, by kernel_rfl⟩ sortC sortNone)) (tidy_ok ⟨Try.f120, rfl, by kernel_rfl, by kernel_rfl⟩ tidyC tidyNone)) (clone_ok ⟨Try.f84, rfl, by kernel_rfl, by kernel_rfl⟩ cloneC cloneZero cloneNil)
def f96.b' {R : Type} (L N : Nat) (k : Bool → Option R) (x0 : Int) (x1 : Int) (x2 : Int) : Option R :=
  bif (decide (x0 ≥ x1)) then
    k (decide (x0 ≤ x2))
  else k false
def f96.b {R : Type} (L N : Nat) (k : Bool → Option R) (x0 : Int) (x1 : Int) (x2 : Int) : Option R :=
  f96.b' L N k x0 x1 x2
def f96 (L N : Nat) (x0 : Int) (x1 : Int) (x2 : Int) : Option (Bool) := f96.b L N some x0 x1 x2
def f96.ent (L N : Nat) (args : List AV) (vw : View) (site : Nat) : Ans := match roD [i64, i64, i64] vw args with
  | some d => ⟨Bool, f96 L N d.1 d.2.1 d.2.2.1, fun y => ((.tv .bool y), [], [])⟩
  | none => Ans.no
noncomputable def E96 (L N : Nat) : Env := { P := Try.prog, ty := tyOf, Φ := (Φx L N), inl := inlT, live := lives, liveX := livesX, L := L, dp := none, prom := promT, heal := healT, ren := renT }
theorem f96.b_eq {R : Type} (L N : Nat) (κ : AV → Option R) (x0 : Int) (x1 : Int) (x2 : Int) :
    evBody (E96 L N) (evCallI (E96 L N) 1 2000) 1000 96 Try.f96 [(.tv i64 x0), (.tv i64 x1), (.tv i64 x2)] [] [] (finC (.one .bool) κ)
    = f96.b L N (fun a0 => κ (.tv .bool a0)) x0 x1 x2 := by kernel_rfl
theorem f96.ok (L N : Nat) (hΦ : TellsOk Try.prog ((Φx L N))) : EntOk Try.prog 96 (f96.ent L N) := by
  intro args vw site h
  unfold f96.ent
  split
  · rename_i d ha
    intro y hy hs
    refine call_ro (dep := 1000) (E := (E96 L N)) (rs := (.one .bool)) (κ := unR (.one .bool)) (sound_of hΦ) okP (callI_sound (sound_of hΦ) okP 1 2000) (f := Try.f96) rfl hs ha ?_ (fun _ h => unR_some h) rfl site
    exact (f96.b_eq L N (unR (.one .bool)) d.1 d.2.1 d.2.2.1).trans (Eq.trans (b := f96.b L N some d.1 d.2.1 d.2.2.1) (by kernel_rfl) hy)
  · intro y hy
    cases hy
def Φ96 (L N : Nat) : Tells := (addT (Φx L N) 96 (f96.ent L N))
theorem Φ96_ok (L N : Nat) : TellsOk Try.prog (Φ96 L N) := addT_ok (Φx_ok L N) (f96.ok L N (Φx_ok L N))
def f97.b' {R : Type} (L N : Nat) (k : Bool → Option R) (x0 : Int) : Option R :=
  (f96 L N x0 (-4 : Int) (4 : Int)).bind fun y0 =>
  k y0
def f97.b {R : Type} (L N : Nat) (k : Bool → Option R) (x0 : Int) : Option R :=
  f97.b' L N k x0
def f97 (L N : Nat) (x0 : Int) : Option (Bool) := f97.b L N some x0
def f97.ent (L N : Nat) (args : List AV) (vw : View) (site : Nat) : Ans := match roD [i64] vw args with
  | some d => ⟨Bool, f97 L N d.1, fun y => ((.tv .bool y), [], [])⟩
  | none => Ans.no
noncomputable def E97 (L N : Nat) : Env := { P := Try.prog, ty := tyOf, Φ := (Φ96 L N), inl := inlT, live := lives, liveX := livesX, L := L, dp := none, prom := promT, heal := healT, ren := renT }
theorem f97.b_eq {R : Type} (L N : Nat) (κ : AV → Option R) (x0 : Int) :
    evBody (E97 L N) (evCallI (E97 L N) 1 2000) 1000 97 Try.f97 [(.tv i64 x0)] [] [] (finC (.one .bool) κ)
    = f97.b L N (fun a0 => κ (.tv .bool a0)) x0 := by kernel_rfl
theorem f97.ok (L N : Nat) (hΦ : TellsOk Try.prog ((Φ96 L N))) : EntOk Try.prog 97 (f97.ent L N) := by
  intro args vw site h
  unfold f97.ent
  split
  · rename_i d ha
    intro y hy hs
    refine call_ro (dep := 1000) (E := (E97 L N)) (rs := (.one .bool)) (κ := unR (.one .bool)) (sound_of hΦ) okP (callI_sound (sound_of hΦ) okP 1 2000) (f := Try.f97) rfl hs ha ?_ (fun _ h => unR_some h) rfl site
    exact (f97.b_eq L N (unR (.one .bool)) d.1).trans (Eq.trans (b := f97.b L N some d.1) (by kernel_rfl) hy)
  · intro y hy
    cases hy
def Φ97 (L N : Nat) : Tells := (addT (Φ96 L N) 97 (f97.ent L N))
theorem Φ97_ok (L N : Nat) : TellsOk Try.prog (Φ97 L N) := addT_ok (Φ96_ok L N) (f97.ok L N (Φ96_ok L N))
def f98.b' {R : Type} (L N : Nat) (k : Bool → Option R) (x0 : Move) (x1 : Move) : Option R :=
  bif (decide (x0.act < x1.act)) then
    k true
  else bif (x0.act == x1.act) then
    k (decide (x0.to < x1.to))
  else k false
def f98.b {R : Type} (L N : Nat) (k : Bool → Option R) (x0 : Move) (x1 : Move) : Option R :=
  f98.b' L N k x0 x1
def f98 (L N : Nat) (x0 : Move) (x1 : Move) : Option (Bool) := f98.b L N some x0 x1
def f98.ent (L N : Nat) (args : List AV) (vw : View) (site : Nat) : Ans := match roD [(.st 0), (.st 0)] vw args with
  | some d => ⟨Bool, f98 L N d.1 d.2.1, fun y => ((.tv .bool y), [], [])⟩
  | none => Ans.no
noncomputable def E98 (L N : Nat) : Env := { P := Try.prog, ty := tyOf, Φ := (Φ97 L N), inl := inlT, live := lives, liveX := livesX, L := L, dp := none, prom := promT, heal := healT, ren := renT }
theorem f98.b_eq {R : Type} (L N : Nat) (κ : AV → Option R) (x0 : Move) (x1 : Move) :
    evBody (E98 L N) (evCallI (E98 L N) 1 2000) 1000 98 Try.f98 [(.tv (.st 0) x0), (.tv (.st 0) x1)] [] [] (finC (.one .bool) κ)
    = f98.b L N (fun a0 => κ (.tv .bool a0)) x0 x1 := by kernel_rfl
theorem f98.ok (L N : Nat) (hΦ : TellsOk Try.prog ((Φ97 L N))) : EntOk Try.prog 98 (f98.ent L N) := by
  intro args vw site h
  unfold f98.ent
  split
  · rename_i d ha
    intro y hy hs
    refine call_ro (dep := 1000) (E := (E98 L N)) (rs := (.one .bool)) (κ := unR (.one .bool)) (sound_of hΦ) okP (callI_sound (sound_of hΦ) okP 1 2000) (f := Try.f98) rfl hs ha ?_ (fun _ h => unR_some h) rfl site
    exact (f98.b_eq L N (unR (.one .bool)) d.1 d.2.1).trans (Eq.trans (b := f98.b L N some d.1 d.2.1) (by kernel_rfl) hy)
  · intro y hy
    cases hy
def Φ98 (L N : Nat) : Tells := (addT (Φ97 L N) 98 (f98.ent L N))
theorem Φ98_ok (L N : Nat) : TellsOk Try.prog (Φ98 L N) := addT_ok (Φ97_ok L N) (f98.ok L N (Φ97_ok L N))
def f58.s1' {R : Type} (L N : Nat) (k1_e2 : Int → LLM → Option R) (k1_r : Bool → Int → LLM → Option R) (rec1 : Int → Int → LLM → Option R) (s3 : Int) (s4 : Int) (s5 : LLM) : Option R :=
  bif (decide (0 ≤ s3) && decide (s3 < (s5.length : Int))) then
    bif (decide (s4 < ((listAt s5 [] s3.toNat).length : Int))) then
      bif (decide (0 ≤ s3) && decide (s3 < (s5.length : Int))) then
        bif (decide (0 ≤ s4) && decide (s4 < ((listAt s5 [] s3.toNat).length : Int))) then
          (f97 L N ((listAt (listAt s5 [] s3.toNat) (Ty.dflt (.st 0)) s4.toNat).act)).bind fun y8 =>
          bif (!y8) then
            k1_r false s3 s5
          else (f96 L N ((listAt (listAt s5 [] s3.toNat) (Ty.dflt (.st 0)) s4.toNat).to) (0 : Int) (wi ((s5.length : Int) - (1 : Int)))).bind fun y9 =>
          bif (!y9) then
            k1_r false s3 s5
          else bif (decide (s4 > (0 : Int))) then
            bif (decide (0 ≤ s3) && decide (s3 < (s5.length : Int))) then
              bif (decide (0 ≤ (wi (s4 - (1 : Int)))) && decide ((wi (s4 - (1 : Int))) < ((listAt s5 [] s3.toNat).length : Int))) then
                (f98 L N (listAt (listAt s5 [] s3.toNat) (Ty.dflt (.st 0)) (wi (s4 - (1 : Int))).toNat) (Move.mk ((listAt (listAt s5 [] s3.toNat) (Ty.dflt (.st 0)) s4.toNat).act) ((listAt (listAt s5 [] s3.toNat) (Ty.dflt (.st 0)) s4.toNat).to))).bind fun y10 =>
                bif (!y10) then
                  k1_r false s3 s5
                else rec1 s3 (wi (s4 + (1 : Int))) s5
              else none
            else none
          else rec1 s3 (wi (s4 + (1 : Int))) s5
        else none
      else none
    else k1_e2 s3 s5
  else none
def f58.s1 {R : Type} (L N : Nat) (k1_e2 : Int → LLM → Option R) (k1_r : Bool → Int → LLM → Option R) (rec1 : Int → Int → LLM → Option R) (s3 : Int) (s4 : Int) (s5 : LLM) : Option R :=
  f58.s1' L N k1_e2 k1_r rec1 s3 s4 s5
def f58.l1 {R : Type} (L N : Nat) (k1_e2 : Int → LLM → Option R) (k1_r : Bool → Int → LLM → Option R) : Nat → Int → Int → LLM → Option R
  | 0, _, _, _ => none
  | n + 1, s3, s4, s5 => f58.s1 L N k1_e2 k1_r (f58.l1 L N k1_e2 k1_r n) s3 s4 s5
def f58.T1 (s3 : Int) (s4 : Int) (s5 : LLM) : T := mkT 68 [(1, (.ptr 1001 0)), (3, (.tv i64 s3)), (4, (.tv i64 s4))]
def f58.H1 (s3 : Int) (s4 : Int) (s5 : LLM) : H := [(1001, (.box [(.tv (.sl (.sl (.st 0))) s5)]))]
def f58.T1_e2 (z6 : Int) (z7 : LLM) : T := mkT 68 [(1, (.ptr 1001 0)), (3, (.tv i64 z6))]
def f58.H1_e2 (z6 : Int) (z7 : LLM) : H := [(1001, (.box [(.tv (.sl (.sl (.st 0))) z7)]))]
def f58.T1_r (z15 : Bool) (z16 : Int) (z17 : LLM) : T := mkT 68 [(1, (.ptr 1001 0)), (2, (.tv .bool z15)), (3, (.tv i64 z16))]
def f58.H1_r (z15 : Bool) (z16 : Int) (z17 : LLM) : H := [(1001, (.box [(.tv (.sl (.sl (.st 0))) z17)]))]
def f58.p1_e2' {R : Type} (L N : Nat) (k0_e0 : Option R) (k0_r : Bool → Option R) (rec0 : Int → LLM → Option R) (z6 : Int) (z7 : LLM) : Option R :=
  rec0 (wi (z6 + (1 : Int))) z7
def f58.p1_e2 {R : Type} (L N : Nat) (k0_e0 : Option R) (k0_r : Bool → Option R) (rec0 : Int → LLM → Option R) (z6 : Int) (z7 : LLM) : Option R :=
  f58.p1_e2' L N k0_e0 k0_r rec0 z6 z7
def f58.p1_r' {R : Type} (L N : Nat) (k0_e0 : Option R) (k0_r : Bool → Option R) (rec0 : Int → LLM → Option R) (z15 : Bool) (z16 : Int) (z17 : LLM) : Option R :=
  k0_r z15
def f58.p1_r {R : Type} (L N : Nat) (k0_e0 : Option R) (k0_r : Bool → Option R) (rec0 : Int → LLM → Option R) (z15 : Bool) (z16 : Int) (z17 : LLM) : Option R :=
  f58.p1_r' L N k0_e0 k0_r rec0 z15 z16 z17
def f58.s0' {R : Type} (L N : Nat) (k0_e0 : Option R) (k0_r : Bool → Option R) (rec0 : Int → LLM → Option R) (w1 : Int → Int → LLM → Option R) (s1 : Int) (s2 : LLM) : Option R :=
  bif (decide (s1 < (s2.length : Int))) then
    w1 s1 (0 : Int) s2
  else k0_e0
def f58.s0 {R : Type} (L N : Nat) (k0_e0 : Option R) (k0_r : Bool → Option R) (rec0 : Int → LLM → Option R) (s1 : Int) (s2 : LLM) : Option R :=
  f58.s0' L N k0_e0 k0_r rec0 (fun s3 s4 s5 => f58.l1 L N (fun z6 z7 => f58.p1_e2 L N k0_e0 k0_r rec0 z6 z7) (fun z15 z16 z17 => f58.p1_r L N k0_e0 k0_r rec0 z15 z16 z17) L s3 s4 s5) s1 s2
def f58.l0 {R : Type} (L N : Nat) (k0_e0 : Option R) (k0_r : Bool → Option R) : Nat → Int → LLM → Option R
  | 0, _, _ => none
  | n + 1, s1, s2 => f58.s0 L N k0_e0 k0_r (f58.l0 L N k0_e0 k0_r n) s1 s2
def f58.T0 (s1 : Int) (s2 : LLM) : T := mkT 68 [(1, (.ptr 1001 0)), (3, (.tv i64 s1))]
def f58.H0 (s1 : Int) (s2 : LLM) : H := [(1001, (.box [(.tv (.sl (.sl (.st 0))) s2)]))]
def f58.T0_e0 : T := mkT 68 []
def f58.H0_e0 : H := []
def f58.T0_r (z21 : Bool) : T := mkT 68 [(2, (.tv .bool z21))]
def f58.H0_r (z21 : Bool) : H := []
def f58.p0_e0' {R : Type} (L N : Nat) (k : Bool → Option R) : Option R :=
  k true
def f58.p0_e0 {R : Type} (L N : Nat) (k : Bool → Option R) : Option R :=
  f58.p0_e0' L N k
def f58.p0_r' {R : Type} (L N : Nat) (k : Bool → Option R) (z21 : Bool) : Option R :=
  k z21
def f58.p0_r {R : Type} (L N : Nat) (k : Bool → Option R) (z21 : Bool) : Option R :=
  f58.p0_r' L N k z21
def f58.b' {R : Type} (L N : Nat) (k : Bool → Option R) (w0 : Int → LLM → Option R) (x0 : Graph) : Option R :=
  (f96 L N (x0.moves.length : Int) (1 : Int) (60 : Int)).bind fun y0 =>
  bif (!y0) then
    k false
  else w0 (0 : Int) x0.moves
def f58.b {R : Type} (L N : Nat) (k : Bool → Option R) (x0 : Graph) : Option R :=
  f58.b' L N k (fun s1 s2 => f58.l0 L N (f58.p0_e0 L N k) (fun z21 => f58.p0_r L N k z21) L s1 s2) x0
def f58 (L N : Nat) (x0 : Graph) : Option (Bool) := f58.b L N some x0
def f58.ent (L N : Nat) (args : List AV) (vw : View) (site : Nat) : Ans := match roD [(.st 2)] vw args with
  | some d => ⟨Bool, f58 L N d.1, fun y => ((.tv .bool y), [], [])⟩
  | none => Ans.no
noncomputable def E58 (L N : Nat) : Env := { P := Try.prog, ty := tyOf, Φ := (Φ98 L N), inl := inlT, live := lives, liveX := livesX, L := L, dp := none, prom := promT, heal := healT, ren := renT }
noncomputable def f58.c0 : Code := loopAt 0 (codeOf Try.f58)
noncomputable def f58.c1 : Code := loopAt 2 f58.c0
theorem f58.s1_eq {R : Type} (L N : Nat) (κ : Ex → T → H → Option R) (rec : T → H → Option R) (s3 : Int) (s4 : Int) (s5 : LLM) :
    evRd (E58 L N) (evCallI (E58 L N) 1 2000) 1000 58 68 2 f58.c1 κ rec (f58.T1 s3 s4 s5) (f58.H1 s3 s4 s5)
    = f58.s1 L N (fun z6 z7 => κ (.exit 2) (f58.T1_e2 z6 z7) (f58.H1_e2 z6 z7)) (fun z15 z16 z17 => κ .ret (f58.T1_r z15 z16 z17) (f58.H1_r z15 z16 z17)) (fun s3 s4 s5 => rec (f58.T1 s3 s4 s5) (f58.H1 s3 s4 s5)) s3 s4 s5 := by kernel_rfl
theorem f58.l1_eq {R : Type} (L N : Nat) (κ : Ex → T → H → Option R) : ∀ (n : Nat) (s3 : Int) (s4 : Int) (s5 : LLM),
    evLp (E58 L N) (evCallI (E58 L N) 1 2000) 1000 58 68 2 f58.c1 κ n (f58.T1 s3 s4 s5) (f58.H1 s3 s4 s5)
    = f58.l1 L N (fun z6 z7 => κ (.exit 2) (f58.T1_e2 z6 z7) (f58.H1_e2 z6 z7)) (fun z15 z16 z17 => κ .ret (f58.T1_r z15 z16 z17) (f58.H1_r z15 z16 z17)) n s3 s4 s5 := by
  intro n
  induction n with
  | zero => intros; rfl
  | succ n ih =>
    intro s3 s4 s5
    rw [evLp_succ, f58.s1_eq]
    simp only [ih]
    rfl
theorem f58.p1_e2_eq {R : Type} (L N : Nat) (κ : Ex → T → H → Option R) (rec : T → H → Option R) (z6 : Int) (z7 : LLM) :
    (contAt (E58 L N) (evCallI (E58 L N) 1 2000) 1000 58 68 2 f58.c0 (rdK (E58 L N) 1000 58 68 0 κ rec)) (.exit 2) (f58.T1_e2 z6 z7) (f58.H1_e2 z6 z7)
    = f58.p1_e2 L N (κ (.exit 0) f58.T0_e0 f58.H0_e0) (fun z21 => κ .ret (f58.T0_r z21) (f58.H0_r z21)) (fun s1 s2 => rec (f58.T0 s1 s2) (f58.H0 s1 s2)) z6 z7 := by kernel_rfl
theorem f58.p1_r_eq {R : Type} (L N : Nat) (κ : Ex → T → H → Option R) (rec : T → H → Option R) (z15 : Bool) (z16 : Int) (z17 : LLM) :
    (contAt (E58 L N) (evCallI (E58 L N) 1 2000) 1000 58 68 2 f58.c0 (rdK (E58 L N) 1000 58 68 0 κ rec)) .ret (f58.T1_r z15 z16 z17) (f58.H1_r z15 z16 z17)
    = f58.p1_r L N (κ (.exit 0) f58.T0_e0 f58.H0_e0) (fun z21 => κ .ret (f58.T0_r z21) (f58.H0_r z21)) (fun s1 s2 => rec (f58.T0 s1 s2) (f58.H0 s1 s2)) z15 z16 z17 := by kernel_rfl
theorem f58.s0_eq {R : Type} (L N : Nat) (κ : Ex → T → H → Option R) (rec : T → H → Option R) (s1 : Int) (s2 : LLM) :
    evRd (E58 L N) (evCallI (E58 L N) 1 2000) 1000 58 68 0 f58.c0 κ rec (f58.T0 s1 s2) (f58.H0 s1 s2)
    = f58.s0 L N (κ (.exit 0) f58.T0_e0 f58.H0_e0) (fun z21 => κ .ret (f58.T0_r z21) (f58.H0_r z21)) (fun s1 s2 => rec (f58.T0 s1 s2) (f58.H0 s1 s2)) s1 s2 := by
  refine Eq.trans (b := f58.s0' L N (κ (.exit 0) f58.T0_e0 f58.H0_e0) (fun z21 => κ .ret (f58.T0_r z21) (f58.H0_r z21)) (fun s1 s2 => rec (f58.T0 s1 s2) (f58.H0 s1 s2)) (fun s3 s4 s5 => evLp (E58 L N) (evCallI (E58 L N) 1 2000) 1000 58 68 2 f58.c1 (contAt (E58 L N) (evCallI (E58 L N) 1 2000) 1000 58 68 2 f58.c0 (rdK (E58 L N) 1000 58 68 0 κ rec)) L (f58.T1 s3 s4 s5) (f58.H1 s3 s4 s5)) s1 s2) (by kernel_rfl) ?_
  unfold f58.s0
  simp only [f58.l1_eq, f58.p1_e2_eq, f58.p1_r_eq]
theorem f58.l0_eq {R : Type} (L N : Nat) (κ : Ex → T → H → Option R) : ∀ (n : Nat) (s1 : Int) (s2 : LLM),
    evLp (E58 L N) (evCallI (E58 L N) 1 2000) 1000 58 68 0 f58.c0 κ n (f58.T0 s1 s2) (f58.H0 s1 s2)
    = f58.l0 L N (κ (.exit 0) f58.T0_e0 f58.H0_e0) (fun z21 => κ .ret (f58.T0_r z21) (f58.H0_r z21)) n s1 s2 := by
  intro n
  induction n with
  | zero => intros; rfl
  | succ n ih =>
    intro s1 s2
    rw [evLp_succ, f58.s0_eq]
    simp only [ih]
    rfl
theorem f58.p0_e0_eq {R : Type} (L N : Nat) (κ : AV → Option R) :
    (contAt (E58 L N) (evCallI (E58 L N) 1 2000) 1000 58 68 0 (codeOf Try.f58) (finK (E58 L N) 1000 Try.f58 (finC (.one .bool) κ))) (.exit 0) f58.T0_e0 f58.H0_e0
    = f58.p0_e0 L N (fun a0 => κ (.tv .bool a0)) := by kernel_rfl
theorem f58.p0_r_eq {R : Type} (L N : Nat) (κ : AV → Option R) (z21 : Bool) :
    (contAt (E58 L N) (evCallI (E58 L N) 1 2000) 1000 58 68 0 (codeOf Try.f58) (finK (E58 L N) 1000 Try.f58 (finC (.one .bool) κ))) .ret (f58.T0_r z21) (f58.H0_r z21)
    = f58.p0_r L N (fun a0 => κ (.tv .bool a0)) z21 := by kernel_rfl
theorem f58.b_eq {R : Type} (L N : Nat) (κ : AV → Option R) (x0 : Graph) :
    evBody (E58 L N) (evCallI (E58 L N) 1 2000) 1000 58 Try.f58 [(.tv (.st 2) x0)] [] [] (finC (.one .bool) κ)
    = f58.b L N (fun a0 => κ (.tv .bool a0)) x0 := by
  refine Eq.trans (b := f58.b' L N (fun a0 => κ (.tv .bool a0)) (fun s1 s2 => evLp (E58 L N) (evCallI (E58 L N) 1 2000) 1000 58 68 0 f58.c0 (contAt (E58 L N) (evCallI (E58 L N) 1 2000) 1000 58 68 0 (codeOf Try.f58) (finK (E58 L N) 1000 Try.f58 (finC (.one .bool) κ))) L (f58.T0 s1 s2) (f58.H0 s1 s2)) x0) (by kernel_rfl) ?_
  unfold f58.b
  simp only [f58.l0_eq, f58.p0_e0_eq, f58.p0_r_eq]
theorem f58.ok (L N : Nat) (hΦ : TellsOk Try.prog ((Φ98 L N))) : EntOk Try.prog 58 (f58.ent L N) := by
  intro args vw site h
  unfold f58.ent
  split
  · rename_i d ha
    intro y hy hs
    refine call_ro (dep := 1000) (E := (E58 L N)) (rs := (.one .bool)) (κ := unR (.one .bool)) (sound_of hΦ) okP (callI_sound (sound_of hΦ) okP 1 2000) (f := Try.f58) rfl hs ha ?_ (fun _ h => unR_some h) rfl site
    exact (f58.b_eq L N (unR (.one .bool)) d.1).trans (Eq.trans (b := f58.b L N some d.1) (by kernel_rfl) hy)
  · intro y hy
    cases hy
def Φ58 (L N : Nat) : Tells := (addT (Φ98 L N) 58 (f58.ent L N))
theorem Φ58_ok (L N : Nat) : TellsOk Try.prog (Φ58 L N) := addT_ok (Φ98_ok L N) (f58.ok L N (Φ98_ok L N))
def f99.s0' {R : Type} (L N : Nat) (self99 : Tree → Option (Int)) (k0_e0 : Int → Option R) (k0_r : Int → Int → Option R) (rec0 : Int → Int → Int → Int → LT → Option R) (s9 : Int) (s10 : Int) (s11 : Int) (s12 : Int) (s13 : LT) : Option R :=
  bif (decide (s10 < (s13.length : Int))) then
    bif (decide (0 ≤ s10) && decide (s10 < (s13.length : Int))) then
      (self99 (listAt s13 (Ty.dflt (.st 1)) s10.toNat)).bind fun y15 =>
      bif (y15 == (0 : Int)) then
        k0_r (0 : Int) s9
      else rec0 (bif decide ((wi (s9 + y15)) < (1000 : Int)) then (wi (s9 + y15)) else (1000 : Int)) (wi (s10 + (1 : Int))) s11 s12 s13
    else none
  else k0_e0 s9
def f99.s0 {R : Type} (L N : Nat) (self99 : Tree → Option (Int)) (k0_e0 : Int → Option R) (k0_r : Int → Int → Option R) (rec0 : Int → Int → Int → Int → LT → Option R) (s9 : Int) (s10 : Int) (s11 : Int) (s12 : Int) (s13 : LT) : Option R :=
  f99.s0' L N self99 k0_e0 k0_r rec0 s9 s10 s11 s12 s13
def f99.l0 {R : Type} (L N : Nat) (self99 : Tree → Option (Int)) (k0_e0 : Int → Option R) (k0_r : Int → Int → Option R) : Nat → Int → Int → Int → Int → LT → Option R
  | 0, _, _, _, _, _ => none
  | n + 1, s9, s10, s11, s12, s13 => f99.s0 L N self99 k0_e0 k0_r (f99.l0 L N self99 k0_e0 k0_r n) s9 s10 s11 s12 s13
def f99.T0 (s9 : Int) (s10 : Int) (s11 : Int) (s12 : Int) (s13 : LT) : T := mkT 59 [(1, (.ptr 1001 0)), (4, (.tv i64 s9)), (5, (.tv i64 s10))]
def f99.H0 (s9 : Int) (s10 : Int) (s11 : Int) (s12 : Int) (s13 : LT) : H := [(1001, (.box [(.tv i64 s11), (.tv i64 s12), (.tv (.sl (.st 1)) s13)]))]
def f99.T0_e0 (z14 : Int) : T := mkT 59 [(4, (.tv i64 z14))]
def f99.H0_e0 (z14 : Int) : H := []
def f99.T0_r (z16 : Int) (z17 : Int) : T := mkT 59 [(2, (.tv i64 z16)), (4, (.tv i64 z17))]
def f99.H0_r (z16 : Int) (z17 : Int) : H := []
def f99.p0_e0' {R : Type} (L N : Nat) (self99 : Tree → Option (Int)) (k : Int → Option R) (z14 : Int) : Option R :=
  k z14
def f99.p0_e0 {R : Type} (L N : Nat) (self99 : Tree → Option (Int)) (k : Int → Option R) (z14 : Int) : Option R :=
  f99.p0_e0' L N self99 k z14
def f99.p0_r' {R : Type} (L N : Nat) (self99 : Tree → Option (Int)) (k : Int → Option R) (z16 : Int) (z17 : Int) : Option R :=
  k z16
def f99.p0_r {R : Type} (L N : Nat) (self99 : Tree → Option (Int)) (k : Int → Option R) (z16 : Int) (z17 : Int) : Option R :=
  f99.p0_r' L N self99 k z16 z17
def f99.j0' {R : Type} (L N : Nat) (self99 : Tree → Option (Int)) (k : Int → Option R) (w0 : Int → Int → Int → Int → LT → Option R) (v6 : Int) (v7 : Int) (v8 : LT) : Option R :=
  w0 (1 : Int) (0 : Int) v6 v7 v8
def f99.b' {R : Type} (L N : Nat) (self99 : Tree → Option (Int)) (k : Int → Option R) (w0 : Int → Int → Int → Int → LT → Option R) (x0 : Tree) : Option R :=
  (f96 L N x0.op (0 : Int) (3 : Int)).bind fun y0 =>
  bif (!y0) then
    k (0 : Int)
  else bif (decide (0 ≤ x0.op) && decide (x0.op < (([(0 : Int), (1 : Int), (2 : Int), (1 : Int)] : LI).length : Int))) then
    bif ((x0.parts.length : Int) != (listAt ([(0 : Int), (1 : Int), (2 : Int), (1 : Int)] : LI) (0 : Int) x0.op.toNat)) then
      k (0 : Int)
    else (f97 L N x0.n).bind fun y1 =>
    bif (!y1) then
      k (0 : Int)
    else bif (x0.op != (3 : Int)) then
      bif (x0.n != (0 : Int)) then
        k (0 : Int)
      else f99.j0' L N self99 k w0 x0.op x0.n x0.parts
    else f99.j0' L N self99 k w0 x0.op x0.n x0.parts
  else none
def f99.b {R : Type} (L N : Nat) (self99 : Tree → Option (Int)) (k : Int → Option R) (x0 : Tree) : Option R :=
  f99.b' L N self99 k (fun s9 s10 s11 s12 s13 => f99.l0 L N self99 (fun z14 => f99.p0_e0 L N self99 k z14) (fun z16 z17 => f99.p0_r L N self99 k z16 z17) L s9 s10 s11 s12 s13) x0
def f99 (L N : Nat) : Nat → Tree → Option (Int)
  | 0, _ => none
  | n + 1, x0 => f99.b L N (f99 L N n) some x0
def f99.ent (L N m : Nat) (args : List AV) (vw : View) (site : Nat) : Ans := match roD [(.st 1)] vw args with
  | some d => ⟨Int, f99 L N m d.1, fun y => ((.tv i64 y), [], [])⟩
  | none => Ans.no
def Φ99s (L N m : Nat) : Tells := (addT (Φ58 L N) 99 (f99.ent L N m))
noncomputable def E99 (L N m : Nat) : Env := { P := Try.prog, ty := tyOf, Φ := Φ99s L N m, inl := inlT, live := lives, liveX := livesX, L := L, dp := none, prom := promT, heal := healT, ren := renT }
noncomputable def f99.c0 : Code := loopAt 0 (codeOf Try.f99)
theorem f99.s0_eq {R : Type} (L N m : Nat) (κ : Ex → T → H → Option R) (rec : T → H → Option R) (s9 : Int) (s10 : Int) (s11 : Int) (s12 : Int) (s13 : LT) :
    evRd (E99 L N m) (evCallI (E99 L N m) 1 2000) 1000 99 59 0 f99.c0 κ rec (f99.T0 s9 s10 s11 s12 s13) (f99.H0 s9 s10 s11 s12 s13)
    = f99.s0 L N (f99 L N m) (fun z14 => κ (.exit 0) (f99.T0_e0 z14) (f99.H0_e0 z14)) (fun z16 z17 => κ .ret (f99.T0_r z16 z17) (f99.H0_r z16 z17)) (fun s9 s10 s11 s12 s13 => rec (f99.T0 s9 s10 s11 s12 s13) (f99.H0 s9 s10 s11 s12 s13)) s9 s10 s11 s12 s13 := by kernel_rfl
theorem f99.l0_eq {R : Type} (L N m : Nat) (κ : Ex → T → H → Option R) : ∀ (n : Nat) (s9 : Int) (s10 : Int) (s11 : Int) (s12 : Int) (s13 : LT),
    evLp (E99 L N m) (evCallI (E99 L N m) 1 2000) 1000 99 59 0 f99.c0 κ n (f99.T0 s9 s10 s11 s12 s13) (f99.H0 s9 s10 s11 s12 s13)
    = f99.l0 L N (f99 L N m) (fun z14 => κ (.exit 0) (f99.T0_e0 z14) (f99.H0_e0 z14)) (fun z16 z17 => κ .ret (f99.T0_r z16 z17) (f99.H0_r z16 z17)) n s9 s10 s11 s12 s13 := by
  intro n
  induction n with
  | zero => intros; rfl
  | succ n ih =>
    intro s9 s10 s11 s12 s13
    rw [evLp_succ, f99.s0_eq]
    simp only [ih]
    rfl
theorem f99.p0_e0_eq {R : Type} (L N m : Nat) (κ : AV → Option R) (z14 : Int) :
    (contAt (E99 L N m) (evCallI (E99 L N m) 1 2000) 1000 99 59 0 (codeOf Try.f99) (finK (E99 L N m) 1000 Try.f99 (finC (.one i64) κ))) (.exit 0) (f99.T0_e0 z14) (f99.H0_e0 z14)
    = f99.p0_e0 L N (f99 L N m) (fun a0 => κ (.tv i64 a0)) z14 := by kernel_rfl
theorem f99.p0_r_eq {R : Type} (L N m : Nat) (κ : AV → Option R) (z16 : Int) (z17 : Int) :
    (contAt (E99 L N m) (evCallI (E99 L N m) 1 2000) 1000 99 59 0 (codeOf Try.f99) (finK (E99 L N m) 1000 Try.f99 (finC (.one i64) κ))) .ret (f99.T0_r z16 z17) (f99.H0_r z16 z17)
    = f99.p0_r L N (f99 L N m) (fun a0 => κ (.tv i64 a0)) z16 z17 := by kernel_rfl
theorem f99.b_eq {R : Type} (L N m : Nat) (κ : AV → Option R) (x0 : Tree) :
    evBody (E99 L N m) (evCallI (E99 L N m) 1 2000) 1000 99 Try.f99 [(.tv (.st 1) x0)] [] [] (finC (.one i64) κ)
    = f99.b L N (f99 L N m) (fun a0 => κ (.tv i64 a0)) x0 := by
  refine Eq.trans (b := f99.b' L N (f99 L N m) (fun a0 => κ (.tv i64 a0)) (fun s9 s10 s11 s12 s13 => evLp (E99 L N m) (evCallI (E99 L N m) 1 2000) 1000 99 59 0 f99.c0 (contAt (E99 L N m) (evCallI (E99 L N m) 1 2000) 1000 99 59 0 (codeOf Try.f99) (finK (E99 L N m) 1000 Try.f99 (finC (.one i64) κ))) L (f99.T0 s9 s10 s11 s12 s13) (f99.H0 s9 s10 s11 s12 s13)) x0) (by kernel_rfl) ?_
  unfold f99.b
  simp only [f99.l0_eq, f99.p0_e0_eq, f99.p0_r_eq]
theorem f99.ok (L N m : Nat) (hΦ : TellsOk Try.prog (Φ99s L N m)) : EntOk Try.prog 99 (f99.ent L N (m + 1)) := by
  intro args vw site h
  unfold f99.ent
  split
  · rename_i d ha
    intro y hy hs
    refine call_ro (dep := 1000) (E := (E99 L N m)) (rs := (.one i64)) (κ := unR (.one i64)) (sound_of hΦ) okP (callI_sound (sound_of hΦ) okP 1 2000) (f := Try.f99) rfl hs ha ?_ (fun _ h => unR_some h) rfl site
    exact (f99.b_eq L N m (unR (.one i64)) d.1).trans (Eq.trans (b := f99.b L N (f99 L N m) some d.1) (by kernel_rfl) hy)
  · intro y hy
    cases hy
theorem Φ99s_ok (L N : Nat) : ∀ m, TellsOk Try.prog (Φ99s L N m) := by
  intro m
  induction m with
  | zero => exact (addT_ok (Φ58_ok L N) (fun args vw site h => by unfold f99.ent; split <;> (intro y hy; cases hy)))
  | succ m ih => exact (addT_ok (Φ58_ok L N) (f99.ok L N m ih))
def Φ99 (L N : Nat) : Tells := (addT (Φ58 L N) 99 (f99.ent L N N))
theorem Φ99_ok (L N : Nat) : TellsOk Try.prog (Φ99 L N) := Φ99s_ok L N N
def f59.b' {R : Type} (L N : Nat) (k : Bool → Option R) (x0 : Tree) : Option R :=
  (f99 L N N (Tree.mk x0.op x0.n x0.parts)).bind fun y0 =>
  (f96 L N y0 (1 : Int) (60 : Int)).bind fun y1 =>
  k y1
def f59.b {R : Type} (L N : Nat) (k : Bool → Option R) (x0 : Tree) : Option R :=
  f59.b' L N k x0
def f59 (L N : Nat) (x0 : Tree) : Option (Bool) := f59.b L N some x0
def f59.ent (L N : Nat) (args : List AV) (vw : View) (site : Nat) : Ans := match roD [(.st 1)] vw args with
  | some d => ⟨Bool, f59 L N d.1, fun y => ((.tv .bool y), [], [])⟩
  | none => Ans.no
noncomputable def E59 (L N : Nat) : Env := { P := Try.prog, ty := tyOf, Φ := (Φ99 L N), inl := inlT, live := lives, liveX := livesX, L := L, dp := none, prom := promT, heal := healT, ren := renT }
theorem f59.b_eq {R : Type} (L N : Nat) (κ : AV → Option R) (x0 : Tree) :
    evBody (E59 L N) (evCallI (E59 L N) 1 2000) 1000 59 Try.f59 [(.tv (.st 1) x0)] [] [] (finC (.one .bool) κ)
    = f59.b L N (fun a0 => κ (.tv .bool a0)) x0 := by kernel_rfl
theorem f59.ok (L N : Nat) (hΦ : TellsOk Try.prog ((Φ99 L N))) : EntOk Try.prog 59 (f59.ent L N) := by
  intro args vw site h
  unfold f59.ent
  split
  · rename_i d ha
    intro y hy hs
    refine call_ro (dep := 1000) (E := (E59 L N)) (rs := (.one .bool)) (κ := unR (.one .bool)) (sound_of hΦ) okP (callI_sound (sound_of hΦ) okP 1 2000) (f := Try.f59) rfl hs ha ?_ (fun _ h => unR_some h) rfl site
    exact (f59.b_eq L N (unR (.one .bool)) d.1).trans (Eq.trans (b := f59.b L N some d.1) (by kernel_rfl) hy)
  · intro y hy
    cases hy
def Φ59 (L N : Nat) : Tells := (addT (Φ99 L N) 59 (f59.ent L N))
theorem Φ59_ok (L N : Nat) : TellsOk Try.prog (Φ59 L N) := addT_ok (Φ99_ok L N) (f59.ok L N (Φ99_ok L N))
def f60.s1' {R : Type} (L N : Nat) (self60 : Graph → Tree → Option (LB)) (k1_e3 : LB → LB → Int → LLM → Int → Int → LT → LB → Option R) (rec1 : LB → LB → Int → Int → LLM → Int → Int → LT → LB → Option R) (s18 : LB) (s19 : LB) (s20 : Int) (s21 : Int) (s22 : LLM) (s23 : Int) (s24 : Int) (s25 : LT) (s26 : LB) : Option R :=
  bif (decide (0 ≤ s20) && decide (s20 < (s22.length : Int))) then
    bif (decide (s21 < ((listAt s22 [] s20.toNat).length : Int))) then
      bif (decide (0 ≤ s20) && decide (s20 < (s26.length : Int))) then
        bif (listAt s26 false s20.toNat) then
          bif (decide (0 ≤ s20) && decide (s20 < (s26.length : Int))) then
            rec1 s18 s19 s20 (wi (s21 + (1 : Int))) s22 s23 s24 s25 (s26.set s20.toNat true)
          else none
        else bif (decide (0 ≤ s20) && decide (s20 < (s22.length : Int))) then
          bif (decide (0 ≤ s21) && decide (s21 < ((listAt s22 [] s20.toNat).length : Int))) then
            bif ((listAt (listAt s22 [] s20.toNat) (Ty.dflt (.st 0)) s21.toNat).act == s24) then
              bif (decide (0 ≤ s20) && decide (s20 < (s22.length : Int))) then
                bif (decide (0 ≤ s21) && decide (s21 < ((listAt s22 [] s20.toNat).length : Int))) then
                  bif (decide (0 ≤ (listAt (listAt s22 [] s20.toNat) (Ty.dflt (.st 0)) s21.toNat).to) && decide ((listAt (listAt s22 [] s20.toNat) (Ty.dflt (.st 0)) s21.toNat).to < (s18.length : Int))) then
                    bif (decide (0 ≤ s20) && decide (s20 < (s26.length : Int))) then
                      rec1 s18 s19 s20 (wi (s21 + (1 : Int))) s22 s23 s24 s25 (s26.set s20.toNat (listAt s18 false ((listAt (listAt s22 [] s20.toNat) (Ty.dflt (.st 0)) s21.toNat).to).toNat))
                    else none
                  else none
                else none
              else none
            else bif (decide (0 ≤ s20) && decide (s20 < (s26.length : Int))) then
              rec1 s18 s19 s20 (wi (s21 + (1 : Int))) s22 s23 s24 s25 (s26.set s20.toNat false)
            else none
          else none
        else none
      else none
    else k1_e3 s18 s19 s20 s22 s23 s24 s25 s26
  else none
def f60.s1 {R : Type} (L N : Nat) (self60 : Graph → Tree → Option (LB)) (k1_e3 : LB → LB → Int → LLM → Int → Int → LT → LB → Option R) (rec1 : LB → LB → Int → Int → LLM → Int → Int → LT → LB → Option R) (s18 : LB) (s19 : LB) (s20 : Int) (s21 : Int) (s22 : LLM) (s23 : Int) (s24 : Int) (s25 : LT) (s26 : LB) : Option R :=
  f60.s1' L N self60 k1_e3 rec1 s18 s19 s20 s21 s22 s23 s24 s25 s26
def f60.l1 {R : Type} (L N : Nat) (self60 : Graph → Tree → Option (LB)) (k1_e3 : LB → LB → Int → LLM → Int → Int → LT → LB → Option R) : Nat → LB → LB → Int → Int → LLM → Int → Int → LT → LB → Option R
  | 0, _, _, _, _, _, _, _, _, _ => none
  | n + 1, s18, s19, s20, s21, s22, s23, s24, s25, s26 => f60.s1 L N self60 k1_e3 (f60.l1 L N self60 k1_e3 n) s18 s19 s20 s21 s22 s23 s24 s25 s26
def f60.T1 (s18 : LB) (s19 : LB) (s20 : Int) (s21 : Int) (s22 : LLM) (s23 : Int) (s24 : Int) (s25 : LT) (s26 : LB) : T := mkT 120 [(2, (.ptr 1002 0)), (3, (.ptr 1003 0)), (5, (.row 1013)), (6, (.tv (.sl .bool) s18)), (7, (.tv (.sl .bool) s19)), (8, (.tv i64 s20)), (9, (.tv i64 s21))]
def f60.H1 (s18 : LB) (s19 : LB) (s20 : Int) (s21 : Int) (s22 : LLM) (s23 : Int) (s24 : Int) (s25 : LT) (s26 : LB) : H := [(1002, (.box [(.tv (.sl (.sl (.st 0))) s22)])), (1003, (.box [(.tv i64 s23), (.tv i64 s24), (.tv (.sl (.st 1)) s25)])), (1013, (.row 4 .bool s26))]
def f60.T1_e3 (z27 : LB) (z28 : LB) (z29 : Int) (z30 : LLM) (z31 : Int) (z32 : Int) (z33 : LT) (z34 : LB) : T := mkT 120 [(2, (.ptr 1002 0)), (3, (.ptr 1003 0)), (5, (.row 1013)), (6, (.tv (.sl .bool) z27)), (7, (.tv (.sl .bool) z28)), (8, (.tv i64 z29))]
def f60.H1_e3 (z27 : LB) (z28 : LB) (z29 : Int) (z30 : LLM) (z31 : Int) (z32 : Int) (z33 : LT) (z34 : LB) : H := [(1002, (.box [(.tv (.sl (.sl (.st 0))) z30)])), (1003, (.box [(.tv i64 z31), (.tv i64 z32), (.tv (.sl (.st 1)) z33)])), (1013, (.row 4 .bool z34))]
def f60.p1_e3' {R : Type} (L N : Nat) (self60 : Graph → Tree → Option (LB)) (k0_e0 : LB → Option R) (rec0 : LB → LB → Int → LLM → Int → Int → LT → LB → Option R) (z27 : LB) (z28 : LB) (z29 : Int) (z30 : LLM) (z31 : Int) (z32 : Int) (z33 : LT) (z34 : LB) : Option R :=
  rec0 z27 z28 (wi (z29 + (1 : Int))) z30 z31 z32 z33 z34
def f60.p1_e3 {R : Type} (L N : Nat) (self60 : Graph → Tree → Option (LB)) (k0_e0 : LB → Option R) (rec0 : LB → LB → Int → LLM → Int → Int → LT → LB → Option R) (z27 : LB) (z28 : LB) (z29 : Int) (z30 : LLM) (z31 : Int) (z32 : Int) (z33 : LT) (z34 : LB) : Option R :=
  f60.p1_e3' L N self60 k0_e0 rec0 z27 z28 z29 z30 z31 z32 z33 z34
def f60.s0' {R : Type} (L N : Nat) (self60 : Graph → Tree → Option (LB)) (k0_e0 : LB → Option R) (rec0 : LB → LB → Int → LLM → Int → Int → LT → LB → Option R) (w1 : LB → LB → Int → Int → LLM → Int → Int → LT → LB → Option R) (s9 : LB) (s10 : LB) (s11 : Int) (s12 : LLM) (s13 : Int) (s14 : Int) (s15 : LT) (s16 : LB) : Option R :=
  bif (decide (s11 < (s16.length : Int))) then
    bif (s13 == (0 : Int)) then
      bif (decide (0 ≤ s11) && decide (s11 < (s16.length : Int))) then
        rec0 s9 s10 (wi (s11 + (1 : Int))) s12 s13 s14 s15 (s16.set s11.toNat true)
      else none
    else bif (s13 == (1 : Int)) then
      bif (decide (0 ≤ s11) && decide (s11 < (s9.length : Int))) then
        bif (decide (0 ≤ s11) && decide (s11 < (s16.length : Int))) then
          rec0 s9 s10 (wi (s11 + (1 : Int))) s12 s13 s14 s15 (s16.set s11.toNat (!(listAt s9 false s11.toNat)))
        else none
      else none
    else bif (s13 == (2 : Int)) then
      bif (decide (0 ≤ s11) && decide (s11 < (s9.length : Int))) then
        bif (listAt s9 false s11.toNat) then
          bif (decide (0 ≤ s11) && decide (s11 < (s10.length : Int))) then
            bif (decide (0 ≤ s11) && decide (s11 < (s16.length : Int))) then
              rec0 s9 s10 (wi (s11 + (1 : Int))) s12 s13 s14 s15 (s16.set s11.toNat (listAt s10 false s11.toNat))
            else none
          else none
        else bif (decide (0 ≤ s11) && decide (s11 < (s16.length : Int))) then
          rec0 s9 s10 (wi (s11 + (1 : Int))) s12 s13 s14 s15 (s16.set s11.toNat false)
        else none
      else none
    else w1 s9 s10 s11 (0 : Int) s12 s13 s14 s15 s16
  else k0_e0 s16
def f60.s0 {R : Type} (L N : Nat) (self60 : Graph → Tree → Option (LB)) (k0_e0 : LB → Option R) (rec0 : LB → LB → Int → LLM → Int → Int → LT → LB → Option R) (s9 : LB) (s10 : LB) (s11 : Int) (s12 : LLM) (s13 : Int) (s14 : Int) (s15 : LT) (s16 : LB) : Option R :=
  f60.s0' L N self60 k0_e0 rec0 (fun s18 s19 s20 s21 s22 s23 s24 s25 s26 => f60.l1 L N self60 (fun z27 z28 z29 z30 z31 z32 z33 z34 => f60.p1_e3 L N self60 k0_e0 rec0 z27 z28 z29 z30 z31 z32 z33 z34) L s18 s19 s20 s21 s22 s23 s24 s25 s26) s9 s10 s11 s12 s13 s14 s15 s16
def f60.l0 {R : Type} (L N : Nat) (self60 : Graph → Tree → Option (LB)) (k0_e0 : LB → Option R) : Nat → LB → LB → Int → LLM → Int → Int → LT → LB → Option R
  | 0, _, _, _, _, _, _, _, _ => none
  | n + 1, s9, s10, s11, s12, s13, s14, s15, s16 => f60.s0 L N self60 k0_e0 (f60.l0 L N self60 k0_e0 n) s9 s10 s11 s12 s13 s14 s15 s16
def f60.T0 (s9 : LB) (s10 : LB) (s11 : Int) (s12 : LLM) (s13 : Int) (s14 : Int) (s15 : LT) (s16 : LB) : T := mkT 120 [(2, (.ptr 1002 0)), (3, (.ptr 1003 0)), (5, (.row 1013)), (6, (.tv (.sl .bool) s9)), (7, (.tv (.sl .bool) s10)), (8, (.tv i64 s11))]
def f60.H0 (s9 : LB) (s10 : LB) (s11 : Int) (s12 : LLM) (s13 : Int) (s14 : Int) (s15 : LT) (s16 : LB) : H := [(1002, (.box [(.tv (.sl (.sl (.st 0))) s12)])), (1003, (.box [(.tv i64 s13), (.tv i64 s14), (.tv (.sl (.st 1)) s15)])), (1013, (.row 4 .bool s16))]
def f60.T0_e0 (z17 : LB) : T := mkT 120 [(5, (.row 1013))]
def f60.H0_e0 (z17 : LB) : H := [(1013, (.row 4 .bool z17))]
def f60.p0_e0' {R : Type} (L N : Nat) (self60 : Graph → Tree → Option (LB)) (k : LB → Option R) (z17 : LB) : Option R :=
  k z17
def f60.p0_e0 {R : Type} (L N : Nat) (self60 : Graph → Tree → Option (LB)) (k : LB → Option R) (z17 : LB) : Option R :=
  f60.p0_e0' L N self60 k z17
def f60.s3' {R : Type} (L N : Nat) (self60 : Graph → Tree → Option (LB)) (k3_e3 : Int → LLM → Int → Int → LT → LB → Option R) (rec3 : Int → Int → LLM → Int → Int → LT → LB → Option R) (s64 : Int) (s65 : Int) (s66 : LLM) (s67 : Int) (s68 : Int) (s69 : LT) (s70 : LB) : Option R :=
  bif (decide (0 ≤ s64) && decide (s64 < (s66.length : Int))) then
    bif (decide (s65 < ((listAt s66 [] s64.toNat).length : Int))) then
      bif (decide (0 ≤ s64) && decide (s64 < (s70.length : Int))) then
        bif (listAt s70 false s64.toNat) then
          bif (decide (0 ≤ s64) && decide (s64 < (s70.length : Int))) then
            rec3 s64 (wi (s65 + (1 : Int))) s66 s67 s68 s69 (s70.set s64.toNat true)
          else none
        else bif (decide (0 ≤ s64) && decide (s64 < (s66.length : Int))) then
          bif (decide (0 ≤ s65) && decide (s65 < ((listAt s66 [] s64.toNat).length : Int))) then
            bif ((listAt (listAt s66 [] s64.toNat) (Ty.dflt (.st 0)) s65.toNat).act == s68) then
              bif (decide (0 ≤ s64) && decide (s64 < (s66.length : Int))) then
                bif (decide (0 ≤ s65) && decide (s65 < ((listAt s66 [] s64.toNat).length : Int))) then
                  bif (decide (0 ≤ (listAt (listAt s66 [] s64.toNat) (Ty.dflt (.st 0)) s65.toNat).to) && decide ((listAt (listAt s66 [] s64.toNat) (Ty.dflt (.st 0)) s65.toNat).to < (s70.length : Int))) then
                    bif (decide (0 ≤ s64) && decide (s64 < (s70.length : Int))) then
                      rec3 s64 (wi (s65 + (1 : Int))) s66 s67 s68 s69 (s70.set s64.toNat (listAt s70 false ((listAt (listAt s66 [] s64.toNat) (Ty.dflt (.st 0)) s65.toNat).to).toNat))
                    else none
                  else none
                else none
              else none
            else bif (decide (0 ≤ s64) && decide (s64 < (s70.length : Int))) then
              rec3 s64 (wi (s65 + (1 : Int))) s66 s67 s68 s69 (s70.set s64.toNat false)
            else none
          else none
        else none
      else none
    else k3_e3 s64 s66 s67 s68 s69 s70
  else none
def f60.s3 {R : Type} (L N : Nat) (self60 : Graph → Tree → Option (LB)) (k3_e3 : Int → LLM → Int → Int → LT → LB → Option R) (rec3 : Int → Int → LLM → Int → Int → LT → LB → Option R) (s64 : Int) (s65 : Int) (s66 : LLM) (s67 : Int) (s68 : Int) (s69 : LT) (s70 : LB) : Option R :=
  f60.s3' L N self60 k3_e3 rec3 s64 s65 s66 s67 s68 s69 s70
def f60.l3 {R : Type} (L N : Nat) (self60 : Graph → Tree → Option (LB)) (k3_e3 : Int → LLM → Int → Int → LT → LB → Option R) : Nat → Int → Int → LLM → Int → Int → LT → LB → Option R
  | 0, _, _, _, _, _, _, _ => none
  | n + 1, s64, s65, s66, s67, s68, s69, s70 => f60.s3 L N self60 k3_e3 (f60.l3 L N self60 k3_e3 n) s64 s65 s66 s67 s68 s69 s70
def f60.T3 (s64 : Int) (s65 : Int) (s66 : LLM) (s67 : Int) (s68 : Int) (s69 : LT) (s70 : LB) : T := mkT 120 [(2, (.ptr 1002 0)), (3, (.ptr 1003 0)), (5, (.row 1013)), (6, (.row 1013)), (7, (.row 1013)), (8, (.tv i64 s64)), (9, (.tv i64 s65))]
def f60.H3 (s64 : Int) (s65 : Int) (s66 : LLM) (s67 : Int) (s68 : Int) (s69 : LT) (s70 : LB) : H := [(1002, (.box [(.tv (.sl (.sl (.st 0))) s66)])), (1003, (.box [(.tv i64 s67), (.tv i64 s68), (.tv (.sl (.st 1)) s69)])), (1013, (.row 4 .bool s70))]
def f60.T3_e3 (z71 : Int) (z72 : LLM) (z73 : Int) (z74 : Int) (z75 : LT) (z76 : LB) : T := mkT 120 [(2, (.ptr 1002 0)), (3, (.ptr 1003 0)), (5, (.row 1013)), (6, (.row 1013)), (7, (.row 1013)), (8, (.tv i64 z71))]
def f60.H3_e3 (z71 : Int) (z72 : LLM) (z73 : Int) (z74 : Int) (z75 : LT) (z76 : LB) : H := [(1002, (.box [(.tv (.sl (.sl (.st 0))) z72)])), (1003, (.box [(.tv i64 z73), (.tv i64 z74), (.tv (.sl (.st 1)) z75)])), (1013, (.row 4 .bool z76))]
def f60.p3_e3' {R : Type} (L N : Nat) (self60 : Graph → Tree → Option (LB)) (k2_e0 : LB → Option R) (rec2 : Int → LLM → Int → Int → LT → LB → Option R) (z71 : Int) (z72 : LLM) (z73 : Int) (z74 : Int) (z75 : LT) (z76 : LB) : Option R :=
  rec2 (wi (z71 + (1 : Int))) z72 z73 z74 z75 z76
def f60.p3_e3 {R : Type} (L N : Nat) (self60 : Graph → Tree → Option (LB)) (k2_e0 : LB → Option R) (rec2 : Int → LLM → Int → Int → LT → LB → Option R) (z71 : Int) (z72 : LLM) (z73 : Int) (z74 : Int) (z75 : LT) (z76 : LB) : Option R :=
  f60.p3_e3' L N self60 k2_e0 rec2 z71 z72 z73 z74 z75 z76
def f60.s2' {R : Type} (L N : Nat) (self60 : Graph → Tree → Option (LB)) (k2_e0 : LB → Option R) (rec2 : Int → LLM → Int → Int → LT → LB → Option R) (w3 : Int → Int → LLM → Int → Int → LT → LB → Option R) (s57 : Int) (s58 : LLM) (s59 : Int) (s60 : Int) (s61 : LT) (s62 : LB) : Option R :=
  bif (decide (s57 < (s62.length : Int))) then
    bif (s59 == (0 : Int)) then
      bif (decide (0 ≤ s57) && decide (s57 < (s62.length : Int))) then
        rec2 (wi (s57 + (1 : Int))) s58 s59 s60 s61 (s62.set s57.toNat true)
      else none
    else bif (s59 == (1 : Int)) then
      bif (decide (0 ≤ s57) && decide (s57 < (s62.length : Int))) then
        bif (decide (0 ≤ s57) && decide (s57 < (s62.length : Int))) then
          rec2 (wi (s57 + (1 : Int))) s58 s59 s60 s61 (s62.set s57.toNat (!(listAt s62 false s57.toNat)))
        else none
      else none
    else bif (s59 == (2 : Int)) then
      bif (decide (0 ≤ s57) && decide (s57 < (s62.length : Int))) then
        bif (listAt s62 false s57.toNat) then
          bif (decide (0 ≤ s57) && decide (s57 < (s62.length : Int))) then
            bif (decide (0 ≤ s57) && decide (s57 < (s62.length : Int))) then
              rec2 (wi (s57 + (1 : Int))) s58 s59 s60 s61 (s62.set s57.toNat (listAt s62 false s57.toNat))
            else none
          else none
        else bif (decide (0 ≤ s57) && decide (s57 < (s62.length : Int))) then
          rec2 (wi (s57 + (1 : Int))) s58 s59 s60 s61 (s62.set s57.toNat false)
        else none
      else none
    else w3 s57 (0 : Int) s58 s59 s60 s61 s62
  else k2_e0 s62
def f60.s2 {R : Type} (L N : Nat) (self60 : Graph → Tree → Option (LB)) (k2_e0 : LB → Option R) (rec2 : Int → LLM → Int → Int → LT → LB → Option R) (s57 : Int) (s58 : LLM) (s59 : Int) (s60 : Int) (s61 : LT) (s62 : LB) : Option R :=
  f60.s2' L N self60 k2_e0 rec2 (fun s64 s65 s66 s67 s68 s69 s70 => f60.l3 L N self60 (fun z71 z72 z73 z74 z75 z76 => f60.p3_e3 L N self60 k2_e0 rec2 z71 z72 z73 z74 z75 z76) L s64 s65 s66 s67 s68 s69 s70) s57 s58 s59 s60 s61 s62
def f60.l2 {R : Type} (L N : Nat) (self60 : Graph → Tree → Option (LB)) (k2_e0 : LB → Option R) : Nat → Int → LLM → Int → Int → LT → LB → Option R
  | 0, _, _, _, _, _, _ => none
  | n + 1, s57, s58, s59, s60, s61, s62 => f60.s2 L N self60 k2_e0 (f60.l2 L N self60 k2_e0 n) s57 s58 s59 s60 s61 s62
def f60.T2 (s57 : Int) (s58 : LLM) (s59 : Int) (s60 : Int) (s61 : LT) (s62 : LB) : T := mkT 120 [(2, (.ptr 1002 0)), (3, (.ptr 1003 0)), (5, (.row 1013)), (6, (.row 1013)), (7, (.row 1013)), (8, (.tv i64 s57))]
def f60.H2 (s57 : Int) (s58 : LLM) (s59 : Int) (s60 : Int) (s61 : LT) (s62 : LB) : H := [(1002, (.box [(.tv (.sl (.sl (.st 0))) s58)])), (1003, (.box [(.tv i64 s59), (.tv i64 s60), (.tv (.sl (.st 1)) s61)])), (1013, (.row 4 .bool s62))]
def f60.T2_e0 (z63 : LB) : T := mkT 120 [(5, (.row 1013))]
def f60.H2_e0 (z63 : LB) : H := [(1013, (.row 4 .bool z63))]
def f60.p2_e0' {R : Type} (L N : Nat) (self60 : Graph → Tree → Option (LB)) (k : LB → Option R) (z63 : LB) : Option R :=
  k z63
def f60.p2_e0 {R : Type} (L N : Nat) (self60 : Graph → Tree → Option (LB)) (k : LB → Option R) (z63 : LB) : Option R :=
  f60.p2_e0' L N self60 k z63
def f60.j0' {R : Type} (L N : Nat) (self60 : Graph → Tree → Option (LB)) (k : LB → Option R) (w0 : LB → LB → Int → LLM → Int → Int → LT → LB → Option R) (v2 : LB) (v3 : LB) (v4 : LLM) (v5 : Int) (v6 : Int) (v7 : LT) (v8 : LB) : Option R :=
  w0 v2 v3 (0 : Int) v4 v5 v6 v7 v8
def f60.j1' {R : Type} (L N : Nat) (self60 : Graph → Tree → Option (LB)) (k : LB → Option R) (w2 : Int → LLM → Int → Int → LT → LB → Option R) (v52 : LLM) (v53 : Int) (v54 : Int) (v55 : LT) (v56 : LB) : Option R :=
  w2 (0 : Int) v52 v53 v54 v55 v56
def f60.b' {R : Type} (L N : Nat) (self60 : Graph → Tree → Option (LB)) (k : LB → Option R) (w0 : LB → LB → Int → LLM → Int → Int → LT → LB → Option R) (w2 : Int → LLM → Int → Int → LT → LB → Option R) (x0 : Graph) (x1 : Tree) : Option R :=
  bif (decide (0 ≤ (x0.moves.length : Int)) && decide ((x0.moves.length : Int) ≤ (lim : Int))) then
    bif (decide ((x1.parts.length : Int) > (0 : Int))) then
      bif (decide (0 ≤ (0 : Int)) && decide ((0 : Int) < (x1.parts.length : Int))) then
        (self60 (Graph.mk x0.moves) (listAt x1.parts (Ty.dflt (.st 1)) (0 : Int).toNat)).bind fun y0 =>
        bif (decide (0 ≤ (wi ((x1.parts.length : Int) - (1 : Int)))) && decide ((wi ((x1.parts.length : Int) - (1 : Int))) < (x1.parts.length : Int))) then
          (self60 (Graph.mk x0.moves) (listAt x1.parts (Ty.dflt (.st 1)) (wi ((x1.parts.length : Int) - (1 : Int))).toNat)).bind fun y1 =>
          f60.j0' L N self60 k w0 y0 y1 x0.moves x1.op x1.n x1.parts (List.replicate (x0.moves.length : Int).toNat false)
        else none
      else none
    else f60.j1' L N self60 k w2 x0.moves x1.op x1.n x1.parts (List.replicate (x0.moves.length : Int).toNat false)
  else none
def f60.b {R : Type} (L N : Nat) (self60 : Graph → Tree → Option (LB)) (k : LB → Option R) (x0 : Graph) (x1 : Tree) : Option R :=
  f60.b' L N self60 k (fun s9 s10 s11 s12 s13 s14 s15 s16 => f60.l0 L N self60 (fun z17 => f60.p0_e0 L N self60 k z17) L s9 s10 s11 s12 s13 s14 s15 s16) (fun s57 s58 s59 s60 s61 s62 => f60.l2 L N self60 (fun z63 => f60.p2_e0 L N self60 k z63) L s57 s58 s59 s60 s61 s62) x0 x1
def f60 (L N : Nat) : Nat → Graph → Tree → Option (LB)
  | 0, _, _ => none
  | n + 1, x0, x1 => f60.b L N (f60 L N n) some x0 x1
def f60.ent (L N m : Nat) (args : List AV) (vw : View) (site : Nat) : Ans := match coeD [(.st 2), (.st 1)] vw args with
  | some (d, u) => ⟨LB, f60 L N m d.1 d.2.1, fun y => ((.tv (.sl .bool) y), u, [])⟩
  | none => Ans.no
def Φ60s (L N m : Nat) : Tells := (addT (Φ59 L N) 60 (f60.ent L N m))
noncomputable def E60 (L N m : Nat) : Env := { P := Try.prog, ty := tyOf, Φ := Φ60s L N m, inl := inlT, live := lives, liveX := livesX, L := L, dp := none, prom := promT, heal := healT, ren := renT }
noncomputable def f60.c0 : Code := loopAt 0 (codeOf Try.f60)
noncomputable def f60.c1 : Code := loopAt 3 f60.c0
theorem f60.s1_eq {R : Type} (L N m : Nat) (κ : Ex → T → H → Option R) (rec : T → H → Option R) (s18 : LB) (s19 : LB) (s20 : Int) (s21 : Int) (s22 : LLM) (s23 : Int) (s24 : Int) (s25 : LT) (s26 : LB) :
    evRd (E60 L N m) (evCallI (E60 L N m) 1 2000) 1000 60 120 3 f60.c1 κ rec (f60.T1 s18 s19 s20 s21 s22 s23 s24 s25 s26) (f60.H1 s18 s19 s20 s21 s22 s23 s24 s25 s26)
    = f60.s1 L N (f60 L N m) (fun z27 z28 z29 z30 z31 z32 z33 z34 => κ (.exit 3) (f60.T1_e3 z27 z28 z29 z30 z31 z32 z33 z34) (f60.H1_e3 z27 z28 z29 z30 z31 z32 z33 z34)) (fun s18 s19 s20 s21 s22 s23 s24 s25 s26 => rec (f60.T1 s18 s19 s20 s21 s22 s23 s24 s25 s26) (f60.H1 s18 s19 s20 s21 s22 s23 s24 s25 s26)) s18 s19 s20 s21 s22 s23 s24 s25 s26 := by kernel_rfl
theorem f60.l1_eq {R : Type} (L N m : Nat) (κ : Ex → T → H → Option R) : ∀ (n : Nat) (s18 : LB) (s19 : LB) (s20 : Int) (s21 : Int) (s22 : LLM) (s23 : Int) (s24 : Int) (s25 : LT) (s26 : LB),
    evLp (E60 L N m) (evCallI (E60 L N m) 1 2000) 1000 60 120 3 f60.c1 κ n (f60.T1 s18 s19 s20 s21 s22 s23 s24 s25 s26) (f60.H1 s18 s19 s20 s21 s22 s23 s24 s25 s26)
    = f60.l1 L N (f60 L N m) (fun z27 z28 z29 z30 z31 z32 z33 z34 => κ (.exit 3) (f60.T1_e3 z27 z28 z29 z30 z31 z32 z33 z34) (f60.H1_e3 z27 z28 z29 z30 z31 z32 z33 z34)) n s18 s19 s20 s21 s22 s23 s24 s25 s26 := by
  intro n
  induction n with
  | zero => intros; rfl
  | succ n ih =>
    intro s18 s19 s20 s21 s22 s23 s24 s25 s26
    rw [evLp_succ, f60.s1_eq]
    simp only [ih]
    rfl
theorem f60.p1_e3_eq {R : Type} (L N m : Nat) (κ : Ex → T → H → Option R) (rec : T → H → Option R) (z27 : LB) (z28 : LB) (z29 : Int) (z30 : LLM) (z31 : Int) (z32 : Int) (z33 : LT) (z34 : LB) :
    (contAt (E60 L N m) (evCallI (E60 L N m) 1 2000) 1000 60 120 3 f60.c0 (rdK (E60 L N m) 1000 60 120 0 κ rec)) (.exit 3) (f60.T1_e3 z27 z28 z29 z30 z31 z32 z33 z34) (f60.H1_e3 z27 z28 z29 z30 z31 z32 z33 z34)
    = f60.p1_e3 L N (f60 L N m) (fun z17 => κ (.exit 0) (f60.T0_e0 z17) (f60.H0_e0 z17)) (fun s9 s10 s11 s12 s13 s14 s15 s16 => rec (f60.T0 s9 s10 s11 s12 s13 s14 s15 s16) (f60.H0 s9 s10 s11 s12 s13 s14 s15 s16)) z27 z28 z29 z30 z31 z32 z33 z34 := by kernel_rfl
theorem f60.s0_eq {R : Type} (L N m : Nat) (κ : Ex → T → H → Option R) (rec : T → H → Option R) (s9 : LB) (s10 : LB) (s11 : Int) (s12 : LLM) (s13 : Int) (s14 : Int) (s15 : LT) (s16 : LB) :
    evRd (E60 L N m) (evCallI (E60 L N m) 1 2000) 1000 60 120 0 f60.c0 κ rec (f60.T0 s9 s10 s11 s12 s13 s14 s15 s16) (f60.H0 s9 s10 s11 s12 s13 s14 s15 s16)
    = f60.s0 L N (f60 L N m) (fun z17 => κ (.exit 0) (f60.T0_e0 z17) (f60.H0_e0 z17)) (fun s9 s10 s11 s12 s13 s14 s15 s16 => rec (f60.T0 s9 s10 s11 s12 s13 s14 s15 s16) (f60.H0 s9 s10 s11 s12 s13 s14 s15 s16)) s9 s10 s11 s12 s13 s14 s15 s16 := by
  refine Eq.trans (b := f60.s0' L N (f60 L N m) (fun z17 => κ (.exit 0) (f60.T0_e0 z17) (f60.H0_e0 z17)) (fun s9 s10 s11 s12 s13 s14 s15 s16 => rec (f60.T0 s9 s10 s11 s12 s13 s14 s15 s16) (f60.H0 s9 s10 s11 s12 s13 s14 s15 s16)) (fun s18 s19 s20 s21 s22 s23 s24 s25 s26 => evLp (E60 L N m) (evCallI (E60 L N m) 1 2000) 1000 60 120 3 f60.c1 (contAt (E60 L N m) (evCallI (E60 L N m) 1 2000) 1000 60 120 3 f60.c0 (rdK (E60 L N m) 1000 60 120 0 κ rec)) L (f60.T1 s18 s19 s20 s21 s22 s23 s24 s25 s26) (f60.H1 s18 s19 s20 s21 s22 s23 s24 s25 s26)) s9 s10 s11 s12 s13 s14 s15 s16) (by kernel_rfl) ?_
  unfold f60.s0
  simp only [f60.l1_eq, f60.p1_e3_eq]
theorem f60.l0_eq {R : Type} (L N m : Nat) (κ : Ex → T → H → Option R) : ∀ (n : Nat) (s9 : LB) (s10 : LB) (s11 : Int) (s12 : LLM) (s13 : Int) (s14 : Int) (s15 : LT) (s16 : LB),
    evLp (E60 L N m) (evCallI (E60 L N m) 1 2000) 1000 60 120 0 f60.c0 κ n (f60.T0 s9 s10 s11 s12 s13 s14 s15 s16) (f60.H0 s9 s10 s11 s12 s13 s14 s15 s16)
    = f60.l0 L N (f60 L N m) (fun z17 => κ (.exit 0) (f60.T0_e0 z17) (f60.H0_e0 z17)) n s9 s10 s11 s12 s13 s14 s15 s16 := by
  intro n
  induction n with
  | zero => intros; rfl
  | succ n ih =>
    intro s9 s10 s11 s12 s13 s14 s15 s16
    rw [evLp_succ, f60.s0_eq]
    simp only [ih]
    rfl
theorem f60.p0_e0_eq {R : Type} (L N m : Nat) (κ : AV → Option R) (z17 : LB) :
    (contAt (E60 L N m) (evCallI (E60 L N m) 1 2000) 1000 60 120 0 (codeOf Try.f60) (finK (E60 L N m) 1000 Try.f60 (finC (.one (.sl .bool)) κ))) (.exit 0) (f60.T0_e0 z17) (f60.H0_e0 z17)
    = f60.p0_e0 L N (f60 L N m) (fun a0 => κ (.tv (.sl .bool) a0)) z17 := by kernel_rfl
noncomputable def f60.c2 : Code := loopAt 0 (codeOf Try.f60)
noncomputable def f60.c3 : Code := loopAt 3 f60.c2
theorem f60.s3_eq {R : Type} (L N m : Nat) (κ : Ex → T → H → Option R) (rec : T → H → Option R) (s64 : Int) (s65 : Int) (s66 : LLM) (s67 : Int) (s68 : Int) (s69 : LT) (s70 : LB) :
    evRd (E60 L N m) (evCallI (E60 L N m) 1 2000) 1000 60 120 3 f60.c3 κ rec (f60.T3 s64 s65 s66 s67 s68 s69 s70) (f60.H3 s64 s65 s66 s67 s68 s69 s70)
    = f60.s3 L N (f60 L N m) (fun z71 z72 z73 z74 z75 z76 => κ (.exit 3) (f60.T3_e3 z71 z72 z73 z74 z75 z76) (f60.H3_e3 z71 z72 z73 z74 z75 z76)) (fun s64 s65 s66 s67 s68 s69 s70 => rec (f60.T3 s64 s65 s66 s67 s68 s69 s70) (f60.H3 s64 s65 s66 s67 s68 s69 s70)) s64 s65 s66 s67 s68 s69 s70 := by kernel_rfl
theorem f60.l3_eq {R : Type} (L N m : Nat) (κ : Ex → T → H → Option R) : ∀ (n : Nat) (s64 : Int) (s65 : Int) (s66 : LLM) (s67 : Int) (s68 : Int) (s69 : LT) (s70 : LB),
    evLp (E60 L N m) (evCallI (E60 L N m) 1 2000) 1000 60 120 3 f60.c3 κ n (f60.T3 s64 s65 s66 s67 s68 s69 s70) (f60.H3 s64 s65 s66 s67 s68 s69 s70)
    = f60.l3 L N (f60 L N m) (fun z71 z72 z73 z74 z75 z76 => κ (.exit 3) (f60.T3_e3 z71 z72 z73 z74 z75 z76) (f60.H3_e3 z71 z72 z73 z74 z75 z76)) n s64 s65 s66 s67 s68 s69 s70 := by
  intro n
  induction n with
  | zero => intros; rfl
  | succ n ih =>
    intro s64 s65 s66 s67 s68 s69 s70
    rw [evLp_succ, f60.s3_eq]
    simp only [ih]
    rfl
theorem f60.p3_e3_eq {R : Type} (L N m : Nat) (κ : Ex → T → H → Option R) (rec : T → H → Option R) (z71 : Int) (z72 : LLM) (z73 : Int) (z74 : Int) (z75 : LT) (z76 : LB) :
    (contAt (E60 L N m) (evCallI (E60 L N m) 1 2000) 1000 60 120 3 f60.c2 (rdK (E60 L N m) 1000 60 120 0 κ rec)) (.exit 3) (f60.T3_e3 z71 z72 z73 z74 z75 z76) (f60.H3_e3 z71 z72 z73 z74 z75 z76)
    = f60.p3_e3 L N (f60 L N m) (fun z63 => κ (.exit 0) (f60.T2_e0 z63) (f60.H2_e0 z63)) (fun s57 s58 s59 s60 s61 s62 => rec (f60.T2 s57 s58 s59 s60 s61 s62) (f60.H2 s57 s58 s59 s60 s61 s62)) z71 z72 z73 z74 z75 z76 := by kernel_rfl
theorem f60.s2_eq {R : Type} (L N m : Nat) (κ : Ex → T → H → Option R) (rec : T → H → Option R) (s57 : Int) (s58 : LLM) (s59 : Int) (s60 : Int) (s61 : LT) (s62 : LB) :
    evRd (E60 L N m) (evCallI (E60 L N m) 1 2000) 1000 60 120 0 f60.c2 κ rec (f60.T2 s57 s58 s59 s60 s61 s62) (f60.H2 s57 s58 s59 s60 s61 s62)
    = f60.s2 L N (f60 L N m) (fun z63 => κ (.exit 0) (f60.T2_e0 z63) (f60.H2_e0 z63)) (fun s57 s58 s59 s60 s61 s62 => rec (f60.T2 s57 s58 s59 s60 s61 s62) (f60.H2 s57 s58 s59 s60 s61 s62)) s57 s58 s59 s60 s61 s62 := by
  refine Eq.trans (b := f60.s2' L N (f60 L N m) (fun z63 => κ (.exit 0) (f60.T2_e0 z63) (f60.H2_e0 z63)) (fun s57 s58 s59 s60 s61 s62 => rec (f60.T2 s57 s58 s59 s60 s61 s62) (f60.H2 s57 s58 s59 s60 s61 s62)) (fun s64 s65 s66 s67 s68 s69 s70 => evLp (E60 L N m) (evCallI (E60 L N m) 1 2000) 1000 60 120 3 f60.c3 (contAt (E60 L N m) (evCallI (E60 L N m) 1 2000) 1000 60 120 3 f60.c2 (rdK (E60 L N m) 1000 60 120 0 κ rec)) L (f60.T3 s64 s65 s66 s67 s68 s69 s70) (f60.H3 s64 s65 s66 s67 s68 s69 s70)) s57 s58 s59 s60 s61 s62) (by kernel_rfl) ?_
  unfold f60.s2
  simp only [f60.l3_eq, f60.p3_e3_eq]
theorem f60.l2_eq {R : Type} (L N m : Nat) (κ : Ex → T → H → Option R) : ∀ (n : Nat) (s57 : Int) (s58 : LLM) (s59 : Int) (s60 : Int) (s61 : LT) (s62 : LB),
    evLp (E60 L N m) (evCallI (E60 L N m) 1 2000) 1000 60 120 0 f60.c2 κ n (f60.T2 s57 s58 s59 s60 s61 s62) (f60.H2 s57 s58 s59 s60 s61 s62)
    = f60.l2 L N (f60 L N m) (fun z63 => κ (.exit 0) (f60.T2_e0 z63) (f60.H2_e0 z63)) n s57 s58 s59 s60 s61 s62 := by
  intro n
  induction n with
  | zero => intros; rfl
  | succ n ih =>
    intro s57 s58 s59 s60 s61 s62
    rw [evLp_succ, f60.s2_eq]
    simp only [ih]
    rfl
theorem f60.p2_e0_eq {R : Type} (L N m : Nat) (κ : AV → Option R) (z63 : LB) :
    (contAt (E60 L N m) (evCallI (E60 L N m) 1 2000) 1000 60 120 0 (codeOf Try.f60) (finK (E60 L N m) 1000 Try.f60 (finC (.one (.sl .bool)) κ))) (.exit 0) (f60.T2_e0 z63) (f60.H2_e0 z63)
    = f60.p2_e0 L N (f60 L N m) (fun a0 => κ (.tv (.sl .bool) a0)) z63 := by kernel_rfl
theorem f60.b_eq {R : Type} (L N m : Nat) (κ : AV → Option R) (x0 : Graph) (x1 : Tree) :
    evBody (E60 L N m) (evCallI (E60 L N m) 1 2000) 1000 60 Try.f60 [(.tv (.st 2) x0), (.tv (.st 1) x1)] [] [] (finC (.one (.sl .bool)) κ)
    = f60.b L N (f60 L N m) (fun a0 => κ (.tv (.sl .bool) a0)) x0 x1 := by
  refine Eq.trans (b := f60.b' L N (f60 L N m) (fun a0 => κ (.tv (.sl .bool) a0)) (fun s9 s10 s11 s12 s13 s14 s15 s16 => evLp (E60 L N m) (evCallI (E60 L N m) 1 2000) 1000 60 120 0 f60.c0 (contAt (E60 L N m) (evCallI (E60 L N m) 1 2000) 1000 60 120 0 (codeOf Try.f60) (finK (E60 L N m) 1000 Try.f60 (finC (.one (.sl .bool)) κ))) L (f60.T0 s9 s10 s11 s12 s13 s14 s15 s16) (f60.H0 s9 s10 s11 s12 s13 s14 s15 s16)) (fun s57 s58 s59 s60 s61 s62 => evLp (E60 L N m) (evCallI (E60 L N m) 1 2000) 1000 60 120 0 f60.c2 (contAt (E60 L N m) (evCallI (E60 L N m) 1 2000) 1000 60 120 0 (codeOf Try.f60) (finK (E60 L N m) 1000 Try.f60 (finC (.one (.sl .bool)) κ))) L (f60.T2 s57 s58 s59 s60 s61 s62) (f60.H2 s57 s58 s59 s60 s61 s62)) x0 x1) (by kernel_rfl) ?_
  unfold f60.b
  simp only [f60.l0_eq, f60.l2_eq, f60.p0_e0_eq, f60.p2_e0_eq]
theorem f60.ok (L N m : Nat) (hΦ : TellsOk Try.prog (Φ60s L N m)) : EntOk Try.prog 60 (f60.ent L N (m + 1)) := by
  intro args vw site h
  unfold f60.ent
  split
  · rename_i d u ha
    intro y hy hs
    refine call_data (dep := 1000) (E := (E60 L N m)) (rs := (.one (.sl .bool))) (κ := unR (.one (.sl .bool))) (sound_of hΦ) okP (callI_sound (sound_of hΦ) okP 1 2000) (f := Try.f60) rfl hs ha ?_ (fun _ h => unR_some h) site
    exact (f60.b_eq L N m (unR (.one (.sl .bool))) d.1 d.2.1).trans (Eq.trans (b := f60.b L N (f60 L N m) some d.1 d.2.1) (by kernel_rfl) hy)
  · intro y hy
    cases hy
theorem Φ60s_ok (L N : Nat) : ∀ m, TellsOk Try.prog (Φ60s L N m) := by
  intro m
  induction m with
  | zero => exact (addT_ok (Φ59_ok L N) (fun args vw site h => by unfold f60.ent; split <;> (intro y hy; cases hy)))
  | succ m ih => exact (addT_ok (Φ59_ok L N) (f60.ok L N m ih))
def Φ60 (L N : Nat) : Tells := (addT (Φ59 L N) 60 (f60.ent L N N))
theorem Φ60_ok (L N : Nat) : TellsOk Try.prog (Φ60 L N) := Φ60s_ok L N N
def f17.s0' {R : Type} (L N : Nat) (k0_e0 : LI → Option R) (rec0 : LB → Int → LI → Option R) (s14 : LB) (s15 : Int) (s16 : LI) : Option R :=
  bif (decide (s15 < (s14.length : Int))) then
    bif (decide (0 ≤ s15) && decide (s15 < (s14.length : Int))) then
      bif (listAt s14 false s15.toNat) then
        bif (decide (s16.length + ([s15] : LI).length ≤ lim)) then
          rec0 s14 (wi (s15 + (1 : Int))) (s16 ++ ([s15] : LI))
        else none
      else rec0 s14 (wi (s15 + (1 : Int))) s16
    else none
  else k0_e0 s16
def f17.s0 {R : Type} (L N : Nat) (k0_e0 : LI → Option R) (rec0 : LB → Int → LI → Option R) (s14 : LB) (s15 : Int) (s16 : LI) : Option R :=
  f17.s0' L N k0_e0 rec0 s14 s15 s16
def f17.l0 {R : Type} (L N : Nat) (k0_e0 : LI → Option R) : Nat → LB → Int → LI → Option R
  | 0, _, _, _ => none
  | n + 1, s14, s15, s16 => f17.s0 L N k0_e0 (f17.l0 L N k0_e0 n) s14 s15 s16
def f17.T0 (s14 : LB) (s15 : Int) (s16 : LI) : T := mkT 36 [(5, (.row 1008)), (6, (.tv (.sl .bool) s14)), (7, (.tv i64 s15))]
def f17.H0 (s14 : LB) (s15 : Int) (s16 : LI) : H := [(1008, (.row 3 i64 s16))]
def f17.T0_e0 (z17 : LI) : T := mkT 36 [(5, (.row 1008))]
def f17.H0_e0 (z17 : LI) : H := [(1008, (.row 3 i64 z17))]
def f17.p0_e0' {R : Type} (L N : Nat) (k : LI → Option R) (z17 : LI) : Option R :=
  k z17
def f17.p0_e0 {R : Type} (L N : Nat) (k : LI → Option R) (z17 : LI) : Option R :=
  f17.p0_e0' L N k z17
def f17.j0' {R : Type} (L N : Nat) (k : LI → Option R) (w0 : LB → Int → LI → Option R) (v8 : LLM) (v9 : Int) (v10 : Int) (v11 : LT) (v12 : LI) : Option R :=
  (f60 L N N (Graph.mk v8) (Tree.mk v9 v10 v11)).bind fun y13 =>
  w0 y13 (0 : Int) v12
def f17.b' {R : Type} (L N : Nat) (k : LI → Option R) (w0 : LB → Int → LI → Option R) (x0 : Graph) (x1 : Tree) : Option R :=
  (f58 L N (Graph.mk x0.moves)).bind fun y0 =>
  bif (!y0) then
    k ([] : LI)
  else (f59 L N (Tree.mk x1.op x1.n x1.parts)).bind fun y1 =>
  bif (!y1) then
    k ([] : LI)
  else f17.j0' L N k w0 x0.moves x1.op x1.n x1.parts ([] : LI)
def f17.b {R : Type} (L N : Nat) (k : LI → Option R) (x0 : Graph) (x1 : Tree) : Option R :=
  f17.b' L N k (fun s14 s15 s16 => f17.l0 L N (fun z17 => f17.p0_e0 L N k z17) L s14 s15 s16) x0 x1
def f17 (L N : Nat) (x0 : Graph) (x1 : Tree) : Option (LI) := f17.b L N some x0 x1
def f17.ent (L N : Nat) (args : List AV) (vw : View) (site : Nat) : Ans := match coeD [(.st 2), (.st 1)] vw args with
  | some (d, u) => ⟨LI, f17 L N d.1 d.2.1, fun y => ((.tv (.sl i64) y), u, [])⟩
  | none => Ans.no
noncomputable def E17 (L N : Nat) : Env := { P := Try.prog, ty := tyOf, Φ := (Φ60 L N), inl := inlT, live := lives, liveX := livesX, L := L, dp := none, prom := promT, heal := healT, ren := renT }
noncomputable def f17.c0 : Code := loopAt 0 (codeOf Try.f17)
theorem f17.s0_eq {R : Type} (L N : Nat) (κ : Ex → T → H → Option R) (rec : T → H → Option R) (s14 : LB) (s15 : Int) (s16 : LI) :
    evRd (E17 L N) (evCallI (E17 L N) 1 2000) 1000 17 36 0 f17.c0 κ rec (f17.T0 s14 s15 s16) (f17.H0 s14 s15 s16)
    = f17.s0 L N (fun z17 => κ (.exit 0) (f17.T0_e0 z17) (f17.H0_e0 z17)) (fun s14 s15 s16 => rec (f17.T0 s14 s15 s16) (f17.H0 s14 s15 s16)) s14 s15 s16 := by kernel_rfl
theorem f17.l0_eq {R : Type} (L N : Nat) (κ : Ex → T → H → Option R) : ∀ (n : Nat) (s14 : LB) (s15 : Int) (s16 : LI),
    evLp (E17 L N) (evCallI (E17 L N) 1 2000) 1000 17 36 0 f17.c0 κ n (f17.T0 s14 s15 s16) (f17.H0 s14 s15 s16)
    = f17.l0 L N (fun z17 => κ (.exit 0) (f17.T0_e0 z17) (f17.H0_e0 z17)) n s14 s15 s16 := by
  intro n
  induction n with
  | zero => intros; rfl
  | succ n ih =>
    intro s14 s15 s16
    rw [evLp_succ, f17.s0_eq]
    simp only [ih]
    rfl
theorem f17.p0_e0_eq {R : Type} (L N : Nat) (κ : AV → Option R) (z17 : LI) :
    (contAt (E17 L N) (evCallI (E17 L N) 1 2000) 1000 17 36 0 (codeOf Try.f17) (finK (E17 L N) 1000 Try.f17 (finC (.one (.sl i64)) κ))) (.exit 0) (f17.T0_e0 z17) (f17.H0_e0 z17)
    = f17.p0_e0 L N (fun a0 => κ (.tv (.sl i64) a0)) z17 := by kernel_rfl
theorem f17.b_eq {R : Type} (L N : Nat) (κ : AV → Option R) (x0 : Graph) (x1 : Tree) :
    evBody (E17 L N) (evCallI (E17 L N) 1 2000) 1000 17 Try.f17 [(.tv (.st 2) x0), (.tv (.st 1) x1)] [] [] (finC (.one (.sl i64)) κ)
    = f17.b L N (fun a0 => κ (.tv (.sl i64) a0)) x0 x1 := by
  refine Eq.trans (b := f17.b' L N (fun a0 => κ (.tv (.sl i64) a0)) (fun s14 s15 s16 => evLp (E17 L N) (evCallI (E17 L N) 1 2000) 1000 17 36 0 f17.c0 (contAt (E17 L N) (evCallI (E17 L N) 1 2000) 1000 17 36 0 (codeOf Try.f17) (finK (E17 L N) 1000 Try.f17 (finC (.one (.sl i64)) κ))) L (f17.T0 s14 s15 s16) (f17.H0 s14 s15 s16)) x0 x1) (by kernel_rfl) ?_
  unfold f17.b
  simp only [f17.l0_eq, f17.p0_e0_eq]
theorem f17.ok (L N : Nat) (hΦ : TellsOk Try.prog ((Φ60 L N))) : EntOk Try.prog 17 (f17.ent L N) := by
  intro args vw site h
  unfold f17.ent
  split
  · rename_i d u ha
    intro y hy hs
    refine call_data (dep := 1000) (E := (E17 L N)) (rs := (.one (.sl i64))) (κ := unR (.one (.sl i64))) (sound_of hΦ) okP (callI_sound (sound_of hΦ) okP 1 2000) (f := Try.f17) rfl hs ha ?_ (fun _ h => unR_some h) site
    exact (f17.b_eq L N (unR (.one (.sl i64))) d.1 d.2.1).trans (Eq.trans (b := f17.b L N some d.1 d.2.1) (by kernel_rfl) hy)
  · intro y hy
    cases hy
def Φ17 (L N : Nat) : Tells := (addT (Φ60 L N) 17 (f17.ent L N))
theorem Φ17_ok (L N : Nat) : TellsOk Try.prog (Φ17 L N) := addT_ok (Φ60_ok L N) (f17.ok L N (Φ60_ok L N))
def f72.b' {R : Type} (L N : Nat) (k : Bool → Option R) (x0 : Int) : Option R :=
  bif (decide (x0 ≥ (-4 : Int))) then
    k (decide (x0 ≤ (4 : Int)))
  else k false
def f72.b {R : Type} (L N : Nat) (k : Bool → Option R) (x0 : Int) : Option R :=
  f72.b' L N k x0
def f72 (L N : Nat) (x0 : Int) : Option (Bool) := f72.b L N some x0
def f72.ent (L N : Nat) (args : List AV) (vw : View) (site : Nat) : Ans := match roD [i64] vw args with
  | some d => ⟨Bool, f72 L N d.1, fun y => ((.tv .bool y), [], [])⟩
  | none => Ans.no
noncomputable def E72 (L N : Nat) : Env := { P := Try.prog, ty := tyOf, Φ := (Φ17 L N), inl := inlT, live := lives, liveX := livesX, L := L, dp := none, prom := promT, heal := healT, ren := renT }
theorem f72.b_eq {R : Type} (L N : Nat) (κ : AV → Option R) (x0 : Int) :
    evBody (E72 L N) (evCallI (E72 L N) 1 2000) 1000 72 Try.f72 [(.tv i64 x0)] [] [] (finC (.one .bool) κ)
    = f72.b L N (fun a0 => κ (.tv .bool a0)) x0 := by kernel_rfl
theorem f72.ok (L N : Nat) (hΦ : TellsOk Try.prog ((Φ17 L N))) : EntOk Try.prog 72 (f72.ent L N) := by
  intro args vw site h
  unfold f72.ent
  split
  · rename_i d ha
    intro y hy hs
    refine call_ro (dep := 1000) (E := (E72 L N)) (rs := (.one .bool)) (κ := unR (.one .bool)) (sound_of hΦ) okP (callI_sound (sound_of hΦ) okP 1 2000) (f := Try.f72) rfl hs ha ?_ (fun _ h => unR_some h) rfl site
    exact (f72.b_eq L N (unR (.one .bool)) d.1).trans (Eq.trans (b := f72.b L N some d.1) (by kernel_rfl) hy)
  · intro y hy
    cases hy
def Φ72 (L N : Nat) : Tells := (addT (Φ17 L N) 72 (f72.ent L N))
theorem Φ72_ok (L N : Nat) : TellsOk Try.prog (Φ72 L N) := addT_ok (Φ17_ok L N) (f72.ok L N (Φ17_ok L N))
def f136.b' {R : Type} (L N : Nat) (k : Bool → Option R) (x0 : Int) : Option R :=
  k (x0 != x0)
def f136.b {R : Type} (L N : Nat) (k : Bool → Option R) (x0 : Int) : Option R :=
  f136.b' L N k x0
def f136 (L N : Nat) (x0 : Int) : Option (Bool) := f136.b L N some x0
def f136.ent (L N : Nat) (args : List AV) (vw : View) (site : Nat) : Ans := match roD [i64] vw args with
  | some d => ⟨Bool, f136 L N d.1, fun y => ((.tv .bool y), [], [])⟩
  | none => Ans.no
noncomputable def E136 (L N : Nat) : Env := { P := Try.prog, ty := tyOf, Φ := (Φ72 L N), inl := inlT, live := lives, liveX := livesX, L := L, dp := none, prom := promT, heal := healT, ren := renT }
theorem f136.b_eq {R : Type} (L N : Nat) (κ : AV → Option R) (x0 : Int) :
    evBody (E136 L N) (evCallI (E136 L N) 1 2000) 1000 136 Try.f136 [(.tv i64 x0)] [] [] (finC (.one .bool) κ)
    = f136.b L N (fun a0 => κ (.tv .bool a0)) x0 := by kernel_rfl
theorem f136.ok (L N : Nat) (hΦ : TellsOk Try.prog ((Φ72 L N))) : EntOk Try.prog 136 (f136.ent L N) := by
  intro args vw site h
  unfold f136.ent
  split
  · rename_i d ha
    intro y hy hs
    refine call_ro (dep := 1000) (E := (E136 L N)) (rs := (.one .bool)) (κ := unR (.one .bool)) (sound_of hΦ) okP (callI_sound (sound_of hΦ) okP 1 2000) (f := Try.f136) rfl hs ha ?_ (fun _ h => unR_some h) rfl site
    exact (f136.b_eq L N (unR (.one .bool)) d.1).trans (Eq.trans (b := f136.b L N some d.1) (by kernel_rfl) hy)
  · intro y hy
    cases hy
def Φ136 (L N : Nat) : Tells := (addT (Φ72 L N) 136 (f136.ent L N))
theorem Φ136_ok (L N : Nat) : TellsOk Try.prog (Φ136 L N) := addT_ok (Φ72_ok L N) (f136.ok L N (Φ72_ok L N))
def f108.b' {R : Type} (L N : Nat) (k : Int → Option R) (x0 : Int) (x1 : Int) : Option R :=
  (f136 L N x0).bind fun y0 =>
  (f136 L N x1).bind fun y1 =>
  bif y0 then
    bif y1 then
      k (0 : Int)
    else k (-1 : Int)
  else bif y1 then
    k (1 : Int)
  else bif (decide (x0 < x1)) then
    k (-1 : Int)
  else bif (decide (x0 > x1)) then
    k (1 : Int)
  else k (0 : Int)
def f108.b {R : Type} (L N : Nat) (k : Int → Option R) (x0 : Int) (x1 : Int) : Option R :=
  f108.b' L N k x0 x1
def f108 (L N : Nat) (x0 : Int) (x1 : Int) : Option (Int) := f108.b L N some x0 x1
def f108.ent (L N : Nat) (args : List AV) (vw : View) (site : Nat) : Ans := match roD [i64, i64] vw args with
  | some d => ⟨Int, f108 L N d.1 d.2.1, fun y => ((.tv i64 y), [], [])⟩
  | none => Ans.no
noncomputable def E108 (L N : Nat) : Env := { P := Try.prog, ty := tyOf, Φ := (Φ136 L N), inl := inlT, live := lives, liveX := livesX, L := L, dp := none, prom := promT, heal := healT, ren := renT }
theorem f108.b_eq {R : Type} (L N : Nat) (κ : AV → Option R) (x0 : Int) (x1 : Int) :
    evBody (E108 L N) (evCallI (E108 L N) 1 2000) 1000 108 Try.f108 [(.tv i64 x0), (.tv i64 x1)] [] [] (finC (.one i64) κ)
    = f108.b L N (fun a0 => κ (.tv i64 a0)) x0 x1 := by kernel_rfl
theorem f108.ok (L N : Nat) (hΦ : TellsOk Try.prog ((Φ136 L N))) : EntOk Try.prog 108 (f108.ent L N) := by
  intro args vw site h
  unfold f108.ent
  split
  · rename_i d ha
    intro y hy hs
    refine call_ro (dep := 1000) (E := (E108 L N)) (rs := (.one i64)) (κ := unR (.one i64)) (sound_of hΦ) okP (callI_sound (sound_of hΦ) okP 1 2000) (f := Try.f108) rfl hs ha ?_ (fun _ h => unR_some h) rfl site
    exact (f108.b_eq L N (unR (.one i64)) d.1 d.2.1).trans (Eq.trans (b := f108.b L N some d.1 d.2.1) (by kernel_rfl) hy)
  · intro y hy
    cases hy
def Φ108 (L N : Nat) : Tells := (addT (Φ136 L N) 108 (f108.ent L N))
theorem Φ108_ok (L N : Nat) : TellsOk Try.prog (Φ108 L N) := addT_ok (Φ136_ok L N) (f108.ok L N (Φ136_ok L N))
def f73.b' {R : Type} (L N : Nat) (k : Int → Option R) (x0 : Move) (x1 : Move) : Option R :=
  (f108 L N x0.act x1.act).bind fun y0 =>
  bif (y0 != (0 : Int)) then
    k y0
  else (f108 L N x0.to x1.to).bind fun y1 =>
  k y1
def f73.b {R : Type} (L N : Nat) (k : Int → Option R) (x0 : Move) (x1 : Move) : Option R :=
  f73.b' L N k x0 x1
def f73 (L N : Nat) (x0 : Move) (x1 : Move) : Option (Int) := f73.b L N some x0 x1
def f73.ent (L N : Nat) (args : List AV) (vw : View) (site : Nat) : Ans := match roD [(.st 0), (.st 0)] vw args with
  | some d => ⟨Int, f73 L N d.1 d.2.1, fun y => ((.tv i64 y), [], [])⟩
  | none => Ans.no
noncomputable def E73 (L N : Nat) : Env := { P := Try.prog, ty := tyOf, Φ := (Φ108 L N), inl := inlT, live := lives, liveX := livesX, L := L, dp := none, prom := promT, heal := healT, ren := renT }
theorem f73.b_eq {R : Type} (L N : Nat) (κ : AV → Option R) (x0 : Move) (x1 : Move) :
    evBody (E73 L N) (evCallI (E73 L N) 1 2000) 1000 73 Try.f73 [(.tv (.st 0) x0), (.tv (.st 0) x1)] [] [] (finC (.one i64) κ)
    = f73.b L N (fun a0 => κ (.tv i64 a0)) x0 x1 := by kernel_rfl
theorem f73.ok (L N : Nat) (hΦ : TellsOk Try.prog ((Φ108 L N))) : EntOk Try.prog 73 (f73.ent L N) := by
  intro args vw site h
  unfold f73.ent
  split
  · rename_i d ha
    intro y hy hs
    refine call_ro (dep := 1000) (E := (E73 L N)) (rs := (.one i64)) (κ := unR (.one i64)) (sound_of hΦ) okP (callI_sound (sound_of hΦ) okP 1 2000) (f := Try.f73) rfl hs ha ?_ (fun _ h => unR_some h) rfl site
    exact (f73.b_eq L N (unR (.one i64)) d.1 d.2.1).trans (Eq.trans (b := f73.b L N some d.1 d.2.1) (by kernel_rfl) hy)
  · intro y hy
    cases hy
def Φ73 (L N : Nat) : Tells := (addT (Φ108 L N) 73 (f73.ent L N))
theorem Φ73_ok (L N : Nat) : TellsOk Try.prog (Φ73 L N) := addT_ok (Φ108_ok L N) (f73.ok L N (Φ108_ok L N))
def f32.s1' {R : Type} (L N : Nat) (k1_e2 : LLM → Int → Int → LLM → Option R) (k1_r : Bool → LLM → Int → Int → LLM → Option R) (rec1 : LM → LLM → Int → Int → LM → Int → Int → LLM → Option R) (s7 : LM) (s8 : LLM) (s9 : Int) (s10 : Int) (s11 : LM) (s12 : Int) (s13 : Int) (s14 : LLM) : Option R :=
  bif (decide (s13 < s12)) then
    bif (decide (0 ≤ s13) && decide (s13 < (s11.length : Int))) then
      (f72 L N ((listAt s11 (Ty.dflt (.st 0)) s13.toNat).act)).bind fun y19 =>
      bif (!y19) then
        k1_r false s8 s9 s10 s14
      else bif (decide ((listAt s11 (Ty.dflt (.st 0)) s13.toNat).to < (0 : Int))) then
        k1_r false s8 s9 s10 s14
      else bif (decide ((listAt s11 (Ty.dflt (.st 0)) s13.toNat).to ≥ (s14.length : Int))) then
        k1_r false s8 s9 s10 s14
      else bif (decide (s13 > (0 : Int))) then
        bif (decide (0 ≤ (wi (s13 - (1 : Int)))) && decide ((wi (s13 - (1 : Int))) < (s7.length : Int))) then
          (f73 L N (listAt s7 (Ty.dflt (.st 0)) (wi (s13 - (1 : Int))).toNat) (Move.mk ((listAt s11 (Ty.dflt (.st 0)) s13.toNat).act) ((listAt s11 (Ty.dflt (.st 0)) s13.toNat).to))).bind fun y20 =>
          bif (decide (y20 ≥ (0 : Int))) then
            k1_r false s8 s9 s10 s14
          else rec1 s7 s8 s9 s10 s11 s12 (wi (s13 + (1 : Int))) s14
        else none
      else rec1 s7 s8 s9 s10 s11 s12 (wi (s13 + (1 : Int))) s14
    else none
  else k1_e2 s8 s9 s10 s14
def f32.s1 {R : Type} (L N : Nat) (k1_e2 : LLM → Int → Int → LLM → Option R) (k1_r : Bool → LLM → Int → Int → LLM → Option R) (rec1 : LM → LLM → Int → Int → LM → Int → Int → LLM → Option R) (s7 : LM) (s8 : LLM) (s9 : Int) (s10 : Int) (s11 : LM) (s12 : Int) (s13 : Int) (s14 : LLM) : Option R :=
  f32.s1' L N k1_e2 k1_r rec1 s7 s8 s9 s10 s11 s12 s13 s14
def f32.l1 {R : Type} (L N : Nat) (k1_e2 : LLM → Int → Int → LLM → Option R) (k1_r : Bool → LLM → Int → Int → LLM → Option R) : Nat → LM → LLM → Int → Int → LM → Int → Int → LLM → Option R
  | 0, _, _, _, _, _, _, _, _ => none
  | n + 1, s7, s8, s9, s10, s11, s12, s13, s14 => f32.s1 L N k1_e2 k1_r (f32.l1 L N k1_e2 k1_r n) s7 s8 s9 s10 s11 s12 s13 s14
def f32.T1 (s7 : LM) (s8 : LLM) (s9 : Int) (s10 : Int) (s11 : LM) (s12 : Int) (s13 : Int) (s14 : LLM) : T := mkT 64 [(1, (.ptr 1001 0)), (4, (.tv (.sl (.st 0)) s7)), (18, (.tv (.sl (.sl (.st 0))) s8)), (19, (.tv i64 s9)), (20, (.tv i64 s10)), (24, (.tv (.sl (.st 0)) s11)), (25, (.tv i64 s12)), (26, (.tv i64 s13))]
def f32.H1 (s7 : LM) (s8 : LLM) (s9 : Int) (s10 : Int) (s11 : LM) (s12 : Int) (s13 : Int) (s14 : LLM) : H := [(1001, (.box [(.tv (.sl (.sl (.st 0))) s14)]))]
def f32.T1_e2 (z15 : LLM) (z16 : Int) (z17 : Int) (z18 : LLM) : T := mkT 64 [(1, (.ptr 1001 0)), (18, (.tv (.sl (.sl (.st 0))) z15)), (19, (.tv i64 z16)), (20, (.tv i64 z17))]
def f32.H1_e2 (z15 : LLM) (z16 : Int) (z17 : Int) (z18 : LLM) : H := [(1001, (.box [(.tv (.sl (.sl (.st 0))) z18)]))]
def f32.T1_r (z30 : Bool) (z31 : LLM) (z32 : Int) (z33 : Int) (z34 : LLM) : T := mkT 64 [(1, (.ptr 1001 0)), (2, (.tv .bool z30)), (18, (.tv (.sl (.sl (.st 0))) z31)), (19, (.tv i64 z32)), (20, (.tv i64 z33))]
def f32.H1_r (z30 : Bool) (z31 : LLM) (z32 : Int) (z33 : Int) (z34 : LLM) : H := [(1001, (.box [(.tv (.sl (.sl (.st 0))) z34)]))]
def f32.p1_e2' {R : Type} (L N : Nat) (k0_e0 : Option R) (k0_r : Bool → Option R) (rec0 : LLM → Int → Int → LLM → Option R) (z15 : LLM) (z16 : Int) (z17 : Int) (z18 : LLM) : Option R :=
  rec0 z15 z16 (wi (z17 + (1 : Int))) z18
def f32.p1_e2 {R : Type} (L N : Nat) (k0_e0 : Option R) (k0_r : Bool → Option R) (rec0 : LLM → Int → Int → LLM → Option R) (z15 : LLM) (z16 : Int) (z17 : Int) (z18 : LLM) : Option R :=
  f32.p1_e2' L N k0_e0 k0_r rec0 z15 z16 z17 z18
def f32.p1_r' {R : Type} (L N : Nat) (k0_e0 : Option R) (k0_r : Bool → Option R) (rec0 : LLM → Int → Int → LLM → Option R) (z30 : Bool) (z31 : LLM) (z32 : Int) (z33 : Int) (z34 : LLM) : Option R :=
  k0_r z30
def f32.p1_r {R : Type} (L N : Nat) (k0_e0 : Option R) (k0_r : Bool → Option R) (rec0 : LLM → Int → Int → LLM → Option R) (z30 : Bool) (z31 : LLM) (z32 : Int) (z33 : Int) (z34 : LLM) : Option R :=
  f32.p1_r' L N k0_e0 k0_r rec0 z30 z31 z32 z33 z34
def f32.s0' {R : Type} (L N : Nat) (k0_e0 : Option R) (k0_r : Bool → Option R) (rec0 : LLM → Int → Int → LLM → Option R) (w1 : LM → LLM → Int → Int → LM → Int → Int → LLM → Option R) (s3 : LLM) (s4 : Int) (s5 : Int) (s6 : LLM) : Option R :=
  bif (decide (s5 < s4)) then
    bif (decide (0 ≤ s5) && decide (s5 < (s3.length : Int))) then
      w1 (listAt s3 [] s5.toNat) s3 s4 s5 (listAt s3 [] s5.toNat) ((listAt s3 [] s5.toNat).length : Int) (0 : Int) s6
    else none
  else k0_e0
def f32.s0 {R : Type} (L N : Nat) (k0_e0 : Option R) (k0_r : Bool → Option R) (rec0 : LLM → Int → Int → LLM → Option R) (s3 : LLM) (s4 : Int) (s5 : Int) (s6 : LLM) : Option R :=
  f32.s0' L N k0_e0 k0_r rec0 (fun s7 s8 s9 s10 s11 s12 s13 s14 => f32.l1 L N (fun z15 z16 z17 z18 => f32.p1_e2 L N k0_e0 k0_r rec0 z15 z16 z17 z18) (fun z30 z31 z32 z33 z34 => f32.p1_r L N k0_e0 k0_r rec0 z30 z31 z32 z33 z34) L s7 s8 s9 s10 s11 s12 s13 s14) s3 s4 s5 s6
def f32.l0 {R : Type} (L N : Nat) (k0_e0 : Option R) (k0_r : Bool → Option R) : Nat → LLM → Int → Int → LLM → Option R
  | 0, _, _, _, _ => none
  | n + 1, s3, s4, s5, s6 => f32.s0 L N k0_e0 k0_r (f32.l0 L N k0_e0 k0_r n) s3 s4 s5 s6
def f32.T0 (s3 : LLM) (s4 : Int) (s5 : Int) (s6 : LLM) : T := mkT 64 [(1, (.ptr 1001 0)), (18, (.tv (.sl (.sl (.st 0))) s3)), (19, (.tv i64 s4)), (20, (.tv i64 s5))]
def f32.H0 (s3 : LLM) (s4 : Int) (s5 : Int) (s6 : LLM) : H := [(1001, (.box [(.tv (.sl (.sl (.st 0))) s6)]))]
def f32.T0_e0 : T := mkT 64 []
def f32.H0_e0 : H := []
def f32.T0_r (z43 : Bool) : T := mkT 64 [(2, (.tv .bool z43))]
def f32.H0_r (z43 : Bool) : H := []
def f32.p0_e0' {R : Type} (L N : Nat) (k : Bool → Option R) : Option R :=
  k true
def f32.p0_e0 {R : Type} (L N : Nat) (k : Bool → Option R) : Option R :=
  f32.p0_e0' L N k
def f32.p0_r' {R : Type} (L N : Nat) (k : Bool → Option R) (z43 : Bool) : Option R :=
  k z43
def f32.p0_r {R : Type} (L N : Nat) (k : Bool → Option R) (z43 : Bool) : Option R :=
  f32.p0_r' L N k z43
def f32.j0' {R : Type} (L N : Nat) (k : Bool → Option R) (w0 : LLM → Int → Int → LLM → Option R) (v2 : LLM) : Option R :=
  w0 v2 (v2.length : Int) (0 : Int) v2
def f32.b' {R : Type} (L N : Nat) (k : Bool → Option R) (w0 : LLM → Int → Int → LLM → Option R) (x0 : Graph) : Option R :=
  bif (decide ((x0.moves.length : Int) < (1 : Int))) then
    k false
  else bif (decide ((x0.moves.length : Int) > (60 : Int))) then
    k false
  else f32.j0' L N k w0 x0.moves
def f32.b {R : Type} (L N : Nat) (k : Bool → Option R) (x0 : Graph) : Option R :=
  f32.b' L N k (fun s3 s4 s5 s6 => f32.l0 L N (f32.p0_e0 L N k) (fun z43 => f32.p0_r L N k z43) L s3 s4 s5 s6) x0
def f32 (L N : Nat) (x0 : Graph) : Option (Bool) := f32.b L N some x0
def f32.ent (L N : Nat) (args : List AV) (vw : View) (site : Nat) : Ans := match roD [(.st 2)] vw args with
  | some d => ⟨Bool, f32 L N d.1, fun y => ((.tv .bool y), [], [])⟩
  | none => Ans.no
noncomputable def E32 (L N : Nat) : Env := { P := Try.prog, ty := tyOf, Φ := (Φ73 L N), inl := inlT, live := lives, liveX := livesX, L := L, dp := none, prom := promT, heal := healT, ren := renT }
noncomputable def f32.c0 : Code := loopAt 0 (codeOf Try.f32)
noncomputable def f32.c1 : Code := loopAt 2 f32.c0
theorem f32.s1_eq {R : Type} (L N : Nat) (κ : Ex → T → H → Option R) (rec : T → H → Option R) (s7 : LM) (s8 : LLM) (s9 : Int) (s10 : Int) (s11 : LM) (s12 : Int) (s13 : Int) (s14 : LLM) :
    evRd (E32 L N) (evCallI (E32 L N) 1 2000) 1000 32 64 2 f32.c1 κ rec (f32.T1 s7 s8 s9 s10 s11 s12 s13 s14) (f32.H1 s7 s8 s9 s10 s11 s12 s13 s14)
    = f32.s1 L N (fun z15 z16 z17 z18 => κ (.exit 2) (f32.T1_e2 z15 z16 z17 z18) (f32.H1_e2 z15 z16 z17 z18)) (fun z30 z31 z32 z33 z34 => κ .ret (f32.T1_r z30 z31 z32 z33 z34) (f32.H1_r z30 z31 z32 z33 z34)) (fun s7 s8 s9 s10 s11 s12 s13 s14 => rec (f32.T1 s7 s8 s9 s10 s11 s12 s13 s14) (f32.H1 s7 s8 s9 s10 s11 s12 s13 s14)) s7 s8 s9 s10 s11 s12 s13 s14 := by kernel_rfl
theorem f32.l1_eq {R : Type} (L N : Nat) (κ : Ex → T → H → Option R) : ∀ (n : Nat) (s7 : LM) (s8 : LLM) (s9 : Int) (s10 : Int) (s11 : LM) (s12 : Int) (s13 : Int) (s14 : LLM),
    evLp (E32 L N) (evCallI (E32 L N) 1 2000) 1000 32 64 2 f32.c1 κ n (f32.T1 s7 s8 s9 s10 s11 s12 s13 s14) (f32.H1 s7 s8 s9 s10 s11 s12 s13 s14)
    = f32.l1 L N (fun z15 z16 z17 z18 => κ (.exit 2) (f32.T1_e2 z15 z16 z17 z18) (f32.H1_e2 z15 z16 z17 z18)) (fun z30 z31 z32 z33 z34 => κ .ret (f32.T1_r z30 z31 z32 z33 z34) (f32.H1_r z30 z31 z32 z33 z34)) n s7 s8 s9 s10 s11 s12 s13 s14 := by
  intro n
  induction n with
  | zero => intros; rfl
  | succ n ih =>
    intro s7 s8 s9 s10 s11 s12 s13 s14
    rw [evLp_succ, f32.s1_eq]
    simp only [ih]
    rfl
theorem f32.p1_e2_eq {R : Type} (L N : Nat) (κ : Ex → T → H → Option R) (rec : T → H → Option R) (z15 : LLM) (z16 : Int) (z17 : Int) (z18 : LLM) :
    (contAt (E32 L N) (evCallI (E32 L N) 1 2000) 1000 32 64 2 f32.c0 (rdK (E32 L N) 1000 32 64 0 κ rec)) (.exit 2) (f32.T1_e2 z15 z16 z17 z18) (f32.H1_e2 z15 z16 z17 z18)
    = f32.p1_e2 L N (κ (.exit 0) f32.T0_e0 f32.H0_e0) (fun z43 => κ .ret (f32.T0_r z43) (f32.H0_r z43)) (fun s3 s4 s5 s6 => rec (f32.T0 s3 s4 s5 s6) (f32.H0 s3 s4 s5 s6)) z15 z16 z17 z18 := by kernel_rfl
theorem f32.p1_r_eq {R : Type} (L N : Nat) (κ : Ex → T → H → Option R) (rec : T → H → Option R) (z30 : Bool) (z31 : LLM) (z32 : Int) (z33 : Int) (z34 : LLM) :
    (contAt (E32 L N) (evCallI (E32 L N) 1 2000) 1000 32 64 2 f32.c0 (rdK (E32 L N) 1000 32 64 0 κ rec)) .ret (f32.T1_r z30 z31 z32 z33 z34) (f32.H1_r z30 z31 z32 z33 z34)
    = f32.p1_r L N (κ (.exit 0) f32.T0_e0 f32.H0_e0) (fun z43 => κ .ret (f32.T0_r z43) (f32.H0_r z43)) (fun s3 s4 s5 s6 => rec (f32.T0 s3 s4 s5 s6) (f32.H0 s3 s4 s5 s6)) z30 z31 z32 z33 z34 := by kernel_rfl
theorem f32.s0_eq {R : Type} (L N : Nat) (κ : Ex → T → H → Option R) (rec : T → H → Option R) (s3 : LLM) (s4 : Int) (s5 : Int) (s6 : LLM) :
    evRd (E32 L N) (evCallI (E32 L N) 1 2000) 1000 32 64 0 f32.c0 κ rec (f32.T0 s3 s4 s5 s6) (f32.H0 s3 s4 s5 s6)
    = f32.s0 L N (κ (.exit 0) f32.T0_e0 f32.H0_e0) (fun z43 => κ .ret (f32.T0_r z43) (f32.H0_r z43)) (fun s3 s4 s5 s6 => rec (f32.T0 s3 s4 s5 s6) (f32.H0 s3 s4 s5 s6)) s3 s4 s5 s6 := by
  refine Eq.trans (b := f32.s0' L N (κ (.exit 0) f32.T0_e0 f32.H0_e0) (fun z43 => κ .ret (f32.T0_r z43) (f32.H0_r z43)) (fun s3 s4 s5 s6 => rec (f32.T0 s3 s4 s5 s6) (f32.H0 s3 s4 s5 s6)) (fun s7 s8 s9 s10 s11 s12 s13 s14 => evLp (E32 L N) (evCallI (E32 L N) 1 2000) 1000 32 64 2 f32.c1 (contAt (E32 L N) (evCallI (E32 L N) 1 2000) 1000 32 64 2 f32.c0 (rdK (E32 L N) 1000 32 64 0 κ rec)) L (f32.T1 s7 s8 s9 s10 s11 s12 s13 s14) (f32.H1 s7 s8 s9 s10 s11 s12 s13 s14)) s3 s4 s5 s6) (by kernel_rfl) ?_
  unfold f32.s0
  simp only [f32.l1_eq, f32.p1_e2_eq, f32.p1_r_eq]
theorem f32.l0_eq {R : Type} (L N : Nat) (κ : Ex → T → H → Option R) : ∀ (n : Nat) (s3 : LLM) (s4 : Int) (s5 : Int) (s6 : LLM),
    evLp (E32 L N) (evCallI (E32 L N) 1 2000) 1000 32 64 0 f32.c0 κ n (f32.T0 s3 s4 s5 s6) (f32.H0 s3 s4 s5 s6)
    = f32.l0 L N (κ (.exit 0) f32.T0_e0 f32.H0_e0) (fun z43 => κ .ret (f32.T0_r z43) (f32.H0_r z43)) n s3 s4 s5 s6 := by
  intro n
  induction n with
  | zero => intros; rfl
  | succ n ih =>
    intro s3 s4 s5 s6
    rw [evLp_succ, f32.s0_eq]
    simp only [ih]
    rfl
theorem f32.p0_e0_eq {R : Type} (L N : Nat) (κ : AV → Option R) :
    (contAt (E32 L N) (evCallI (E32 L N) 1 2000) 1000 32 64 0 (codeOf Try.f32) (finK (E32 L N) 1000 Try.f32 (finC (.one .bool) κ))) (.exit 0) f32.T0_e0 f32.H0_e0
    = f32.p0_e0 L N (fun a0 => κ (.tv .bool a0)) := by kernel_rfl
theorem f32.p0_r_eq {R : Type} (L N : Nat) (κ : AV → Option R) (z43 : Bool) :
    (contAt (E32 L N) (evCallI (E32 L N) 1 2000) 1000 32 64 0 (codeOf Try.f32) (finK (E32 L N) 1000 Try.f32 (finC (.one .bool) κ))) .ret (f32.T0_r z43) (f32.H0_r z43)
    = f32.p0_r L N (fun a0 => κ (.tv .bool a0)) z43 := by kernel_rfl
theorem f32.b_eq {R : Type} (L N : Nat) (κ : AV → Option R) (x0 : Graph) :
    evBody (E32 L N) (evCallI (E32 L N) 1 2000) 1000 32 Try.f32 [(.tv (.st 2) x0)] [] [] (finC (.one .bool) κ)
    = f32.b L N (fun a0 => κ (.tv .bool a0)) x0 := by
  refine Eq.trans (b := f32.b' L N (fun a0 => κ (.tv .bool a0)) (fun s3 s4 s5 s6 => evLp (E32 L N) (evCallI (E32 L N) 1 2000) 1000 32 64 0 f32.c0 (contAt (E32 L N) (evCallI (E32 L N) 1 2000) 1000 32 64 0 (codeOf Try.f32) (finK (E32 L N) 1000 Try.f32 (finC (.one .bool) κ))) L (f32.T0 s3 s4 s5 s6) (f32.H0 s3 s4 s5 s6)) x0) (by kernel_rfl) ?_
  unfold f32.b
  simp only [f32.l0_eq, f32.p0_e0_eq, f32.p0_r_eq]
theorem f32.ok (L N : Nat) (hΦ : TellsOk Try.prog ((Φ73 L N))) : EntOk Try.prog 32 (f32.ent L N) := by
  intro args vw site h
  unfold f32.ent
  split
  · rename_i d ha
    intro y hy hs
    refine call_ro (dep := 1000) (E := (E32 L N)) (rs := (.one .bool)) (κ := unR (.one .bool)) (sound_of hΦ) okP (callI_sound (sound_of hΦ) okP 1 2000) (f := Try.f32) rfl hs ha ?_ (fun _ h => unR_some h) rfl site
    exact (f32.b_eq L N (unR (.one .bool)) d.1).trans (Eq.trans (b := f32.b L N some d.1) (by kernel_rfl) hy)
  · intro y hy
    cases hy
def Φ32 (L N : Nat) : Tells := (addT (Φ73 L N) 32 (f32.ent L N))
theorem Φ32_ok (L N : Nat) : TellsOk Try.prog (Φ32 L N) := addT_ok (Φ73_ok L N) (f32.ok L N (Φ73_ok L N))
def f92.s0' {R : Type} (L N : Nat) (self92 : Tree → Int → Option (Int)) (k0_e0 : Int → Option R) (k0_r : Int → Int → Option R) (rec0 : Int → Int → LT → Int → Int → Option R) (s0 : Int) (s1 : Int) (s2 : LT) (s3 : Int) (s4 : Int) : Option R :=
  bif (decide (s4 < s3)) then
    bif (decide (0 ≤ s4) && decide (s4 < (s2.length : Int))) then
      bif (decide (s1 > s0)) then
        k0_r s1 s1
      else (self92 (Tree.mk ((listAt s2 (Ty.dflt (.st 1)) s4.toNat).op) ((listAt s2 (Ty.dflt (.st 1)) s4.toNat).n) ((listAt s2 (Ty.dflt (.st 1)) s4.toNat).parts)) (wi (s0 - s1))).bind fun y8 =>
      rec0 s0 (wi (s1 + y8)) s2 s3 (wi (s4 + (1 : Int)))
    else none
  else k0_e0 s1
def f92.s0 {R : Type} (L N : Nat) (self92 : Tree → Int → Option (Int)) (k0_e0 : Int → Option R) (k0_r : Int → Int → Option R) (rec0 : Int → Int → LT → Int → Int → Option R) (s0 : Int) (s1 : Int) (s2 : LT) (s3 : Int) (s4 : Int) : Option R :=
  f92.s0' L N self92 k0_e0 k0_r rec0 s0 s1 s2 s3 s4
def f92.l0 {R : Type} (L N : Nat) (self92 : Tree → Int → Option (Int)) (k0_e0 : Int → Option R) (k0_r : Int → Int → Option R) : Nat → Int → Int → LT → Int → Int → Option R
  | 0, _, _, _, _, _ => none
  | n + 1, s0, s1, s2, s3, s4 => f92.s0 L N self92 k0_e0 k0_r (f92.l0 L N self92 k0_e0 k0_r n) s0 s1 s2 s3 s4
def f92.T0 (s0 : Int) (s1 : Int) (s2 : LT) (s3 : Int) (s4 : Int) : T := mkT 28 [(1, (.tv i64 s0)), (5, (.tv i64 s1)), (9, (.tv (.sl (.st 1)) s2)), (10, (.tv i64 s3)), (11, (.tv i64 s4))]
def f92.H0 (s0 : Int) (s1 : Int) (s2 : LT) (s3 : Int) (s4 : Int) : H := []
def f92.T0_e0 (z5 : Int) : T := mkT 28 [(5, (.tv i64 z5))]
def f92.H0_e0 (z5 : Int) : H := []
def f92.T0_r (z6 : Int) (z7 : Int) : T := mkT 28 [(4, (.tv i64 z6)), (5, (.tv i64 z7))]
def f92.H0_r (z6 : Int) (z7 : Int) : H := []
def f92.p0_e0' {R : Type} (L N : Nat) (self92 : Tree → Int → Option (Int)) (k : Int → Option R) (z5 : Int) : Option R :=
  k z5
def f92.p0_e0 {R : Type} (L N : Nat) (self92 : Tree → Int → Option (Int)) (k : Int → Option R) (z5 : Int) : Option R :=
  f92.p0_e0' L N self92 k z5
def f92.p0_r' {R : Type} (L N : Nat) (self92 : Tree → Int → Option (Int)) (k : Int → Option R) (z6 : Int) (z7 : Int) : Option R :=
  k z6
def f92.p0_r {R : Type} (L N : Nat) (self92 : Tree → Int → Option (Int)) (k : Int → Option R) (z6 : Int) (z7 : Int) : Option R :=
  f92.p0_r' L N self92 k z6 z7
def f92.b' {R : Type} (L N : Nat) (self92 : Tree → Int → Option (Int)) (k : Int → Option R) (w0 : Int → Int → LT → Int → Int → Option R) (x0 : Tree) (x1 : Int) : Option R :=
  w0 x1 (1 : Int) x0.parts (x0.parts.length : Int) (0 : Int)
def f92.b {R : Type} (L N : Nat) (self92 : Tree → Int → Option (Int)) (k : Int → Option R) (x0 : Tree) (x1 : Int) : Option R :=
  f92.b' L N self92 k (fun s0 s1 s2 s3 s4 => f92.l0 L N self92 (fun z5 => f92.p0_e0 L N self92 k z5) (fun z6 z7 => f92.p0_r L N self92 k z6 z7) L s0 s1 s2 s3 s4) x0 x1
def f92 (L N : Nat) : Nat → Tree → Int → Option (Int)
  | 0, _, _ => none
  | n + 1, x0, x1 => f92.b L N (f92 L N n) some x0 x1
def f92.ent (L N m : Nat) (args : List AV) (vw : View) (site : Nat) : Ans := match roD [(.st 1), i64] vw args with
  | some d => ⟨Int, f92 L N m d.1 d.2.1, fun y => ((.tv i64 y), [], [])⟩
  | none => Ans.no
def Φ92s (L N m : Nat) : Tells := (addT (Φ32 L N) 92 (f92.ent L N m))
noncomputable def E92 (L N m : Nat) : Env := { P := Try.prog, ty := tyOf, Φ := Φ92s L N m, inl := inlT, live := lives, liveX := livesX, L := L, dp := none, prom := promT, heal := healT, ren := renT }
noncomputable def f92.c0 : Code := loopAt 0 (codeOf Try.f92)
theorem f92.s0_eq {R : Type} (L N m : Nat) (κ : Ex → T → H → Option R) (rec : T → H → Option R) (s0 : Int) (s1 : Int) (s2 : LT) (s3 : Int) (s4 : Int) :
    evRd (E92 L N m) (evCallI (E92 L N m) 1 2000) 1000 92 28 0 f92.c0 κ rec (f92.T0 s0 s1 s2 s3 s4) (f92.H0 s0 s1 s2 s3 s4)
    = f92.s0 L N (f92 L N m) (fun z5 => κ (.exit 0) (f92.T0_e0 z5) (f92.H0_e0 z5)) (fun z6 z7 => κ .ret (f92.T0_r z6 z7) (f92.H0_r z6 z7)) (fun s0 s1 s2 s3 s4 => rec (f92.T0 s0 s1 s2 s3 s4) (f92.H0 s0 s1 s2 s3 s4)) s0 s1 s2 s3 s4 := by kernel_rfl
theorem f92.l0_eq {R : Type} (L N m : Nat) (κ : Ex → T → H → Option R) : ∀ (n : Nat) (s0 : Int) (s1 : Int) (s2 : LT) (s3 : Int) (s4 : Int),
    evLp (E92 L N m) (evCallI (E92 L N m) 1 2000) 1000 92 28 0 f92.c0 κ n (f92.T0 s0 s1 s2 s3 s4) (f92.H0 s0 s1 s2 s3 s4)
    = f92.l0 L N (f92 L N m) (fun z5 => κ (.exit 0) (f92.T0_e0 z5) (f92.H0_e0 z5)) (fun z6 z7 => κ .ret (f92.T0_r z6 z7) (f92.H0_r z6 z7)) n s0 s1 s2 s3 s4 := by
  intro n
  induction n with
  | zero => intros; rfl
  | succ n ih =>
    intro s0 s1 s2 s3 s4
    rw [evLp_succ, f92.s0_eq]
    simp only [ih]
    rfl
theorem f92.p0_e0_eq {R : Type} (L N m : Nat) (κ : AV → Option R) (z5 : Int) :
    (contAt (E92 L N m) (evCallI (E92 L N m) 1 2000) 1000 92 28 0 (codeOf Try.f92) (finK (E92 L N m) 1000 Try.f92 (finC (.one i64) κ))) (.exit 0) (f92.T0_e0 z5) (f92.H0_e0 z5)
    = f92.p0_e0 L N (f92 L N m) (fun a0 => κ (.tv i64 a0)) z5 := by kernel_rfl
theorem f92.p0_r_eq {R : Type} (L N m : Nat) (κ : AV → Option R) (z6 : Int) (z7 : Int) :
    (contAt (E92 L N m) (evCallI (E92 L N m) 1 2000) 1000 92 28 0 (codeOf Try.f92) (finK (E92 L N m) 1000 Try.f92 (finC (.one i64) κ))) .ret (f92.T0_r z6 z7) (f92.H0_r z6 z7)
    = f92.p0_r L N (f92 L N m) (fun a0 => κ (.tv i64 a0)) z6 z7 := by kernel_rfl
theorem f92.b_eq {R : Type} (L N m : Nat) (κ : AV → Option R) (x0 : Tree) (x1 : Int) :
    evBody (E92 L N m) (evCallI (E92 L N m) 1 2000) 1000 92 Try.f92 [(.tv (.st 1) x0), (.tv i64 x1)] [] [] (finC (.one i64) κ)
    = f92.b L N (f92 L N m) (fun a0 => κ (.tv i64 a0)) x0 x1 := by
  refine Eq.trans (b := f92.b' L N (f92 L N m) (fun a0 => κ (.tv i64 a0)) (fun s0 s1 s2 s3 s4 => evLp (E92 L N m) (evCallI (E92 L N m) 1 2000) 1000 92 28 0 f92.c0 (contAt (E92 L N m) (evCallI (E92 L N m) 1 2000) 1000 92 28 0 (codeOf Try.f92) (finK (E92 L N m) 1000 Try.f92 (finC (.one i64) κ))) L (f92.T0 s0 s1 s2 s3 s4) (f92.H0 s0 s1 s2 s3 s4)) x0 x1) (by kernel_rfl) ?_
  unfold f92.b
  simp only [f92.l0_eq, f92.p0_e0_eq, f92.p0_r_eq]
theorem f92.ok (L N m : Nat) (hΦ : TellsOk Try.prog (Φ92s L N m)) : EntOk Try.prog 92 (f92.ent L N (m + 1)) := by
  intro args vw site h
  unfold f92.ent
  split
  · rename_i d ha
    intro y hy hs
    refine call_ro (dep := 1000) (E := (E92 L N m)) (rs := (.one i64)) (κ := unR (.one i64)) (sound_of hΦ) okP (callI_sound (sound_of hΦ) okP 1 2000) (f := Try.f92) rfl hs ha ?_ (fun _ h => unR_some h) rfl site
    exact (f92.b_eq L N m (unR (.one i64)) d.1 d.2.1).trans (Eq.trans (b := f92.b L N (f92 L N m) some d.1 d.2.1) (by kernel_rfl) hy)
  · intro y hy
    cases hy
theorem Φ92s_ok (L N : Nat) : ∀ m, TellsOk Try.prog (Φ92s L N m) := by
  intro m
  induction m with
  | zero => exact (addT_ok (Φ32_ok L N) (fun args vw site h => by unfold f92.ent; split <;> (intro y hy; cases hy)))
  | succ m ih => exact (addT_ok (Φ32_ok L N) (f92.ok L N m ih))
def Φ92 (L N : Nat) : Tells := (addT (Φ32 L N) 92 (f92.ent L N N))
theorem Φ92_ok (L N : Nat) : TellsOk Try.prog (Φ92 L N) := Φ92s_ok L N N
def f93.s0' {R : Type} (L N : Nat) (self93 : Tree → Option (Bool)) (k0_e1 : Option R) (k0_r : Bool → Option R) (rec0 : LT → Int → Int → Option R) (s13 : LT) (s14 : Int) (s15 : Int) : Option R :=
  bif (decide (s15 < s14)) then
    bif (decide (0 ≤ s15) && decide (s15 < (s13.length : Int))) then
      (self93 (Tree.mk ((listAt s13 (Ty.dflt (.st 1)) s15.toNat).op) ((listAt s13 (Ty.dflt (.st 1)) s15.toNat).n) ((listAt s13 (Ty.dflt (.st 1)) s15.toNat).parts))).bind fun y16 =>
      bif (!y16) then
        k0_r false
      else rec0 s13 s14 (wi (s15 + (1 : Int)))
    else none
  else k0_e1
def f93.s0 {R : Type} (L N : Nat) (self93 : Tree → Option (Bool)) (k0_e1 : Option R) (k0_r : Bool → Option R) (rec0 : LT → Int → Int → Option R) (s13 : LT) (s14 : Int) (s15 : Int) : Option R :=
  f93.s0' L N self93 k0_e1 k0_r rec0 s13 s14 s15
def f93.l0 {R : Type} (L N : Nat) (self93 : Tree → Option (Bool)) (k0_e1 : Option R) (k0_r : Bool → Option R) : Nat → LT → Int → Int → Option R
  | 0, _, _, _ => none
  | n + 1, s13, s14, s15 => f93.s0 L N self93 k0_e1 k0_r (f93.l0 L N self93 k0_e1 k0_r n) s13 s14 s15
def f93.T0 (s13 : LT) (s14 : Int) (s15 : Int) : T := mkT 48 [(38, (.tv (.sl (.st 1)) s13)), (39, (.tv i64 s14)), (40, (.tv i64 s15))]
def f93.H0 (s13 : LT) (s14 : Int) (s15 : Int) : H := []
def f93.T0_e1 : T := mkT 48 []
def f93.H0_e1 : H := []
def f93.T0_r (z17 : Bool) : T := mkT 48 [(2, (.tv .bool z17))]
def f93.H0_r (z17 : Bool) : H := []
def f93.p0_e1' {R : Type} (L N : Nat) (self93 : Tree → Option (Bool)) (k : Bool → Option R) : Option R :=
  k true
def f93.p0_e1 {R : Type} (L N : Nat) (self93 : Tree → Option (Bool)) (k : Bool → Option R) : Option R :=
  f93.p0_e1' L N self93 k
def f93.p0_r' {R : Type} (L N : Nat) (self93 : Tree → Option (Bool)) (k : Bool → Option R) (z17 : Bool) : Option R :=
  k z17
def f93.p0_r {R : Type} (L N : Nat) (self93 : Tree → Option (Bool)) (k : Bool → Option R) (z17 : Bool) : Option R :=
  f93.p0_r' L N self93 k z17
def f93.j0' {R : Type} (L N : Nat) (self93 : Tree → Option (Bool)) (k : Bool → Option R) (w0 : LT → Int → Int → Option R) (v10 : Int) (v11 : Int) (v12 : LT) : Option R :=
  w0 v12 (v12.length : Int) (0 : Int)
def f93.j1' {R : Type} (L N : Nat) (self93 : Tree → Option (Bool)) (k : Bool → Option R) (w0 : LT → Int → Int → Option R) (v0 : Int) (v1 : Int) (v2 : Int) (v3 : LT) : Option R :=
  bif ((v3.length : Int) != v0) then
    k false
  else bif (v1 != (3 : Int)) then
    bif (v2 != (0 : Int)) then
      k false
    else (f72 L N v2).bind fun y4 =>
    bif (!y4) then
      k false
    else f93.j0' L N self93 k w0 v1 v2 v3
  else (f72 L N v2).bind fun y5 =>
  bif (!y5) then
    k false
  else f93.j0' L N self93 k w0 v1 v2 v3
def f93.b' {R : Type} (L N : Nat) (self93 : Tree → Option (Bool)) (k : Bool → Option R) (w0 : LT → Int → Int → Option R) (x0 : Tree) : Option R :=
  bif (x0.op == (0 : Int)) then
    f93.j1' L N self93 k w0 (0 : Int) x0.op x0.n x0.parts
  else bif (x0.op == (1 : Int)) then
    f93.j1' L N self93 k w0 (1 : Int) x0.op x0.n x0.parts
  else bif (x0.op == (2 : Int)) then
    f93.j1' L N self93 k w0 (2 : Int) x0.op x0.n x0.parts
  else bif (x0.op == (3 : Int)) then
    f93.j1' L N self93 k w0 (1 : Int) x0.op x0.n x0.parts
  else k false
def f93.b {R : Type} (L N : Nat) (self93 : Tree → Option (Bool)) (k : Bool → Option R) (x0 : Tree) : Option R :=
  f93.b' L N self93 k (fun s13 s14 s15 => f93.l0 L N self93 (f93.p0_e1 L N self93 k) (fun z17 => f93.p0_r L N self93 k z17) L s13 s14 s15) x0
def f93 (L N : Nat) : Nat → Tree → Option (Bool)
  | 0, _ => none
  | n + 1, x0 => f93.b L N (f93 L N n) some x0
def f93.ent (L N m : Nat) (args : List AV) (vw : View) (site : Nat) : Ans := match roD [(.st 1)] vw args with
  | some d => ⟨Bool, f93 L N m d.1, fun y => ((.tv .bool y), [], [])⟩
  | none => Ans.no
def Φ93s (L N m : Nat) : Tells := (addT (Φ92 L N) 93 (f93.ent L N m))
noncomputable def E93 (L N m : Nat) : Env := { P := Try.prog, ty := tyOf, Φ := Φ93s L N m, inl := inlT, live := lives, liveX := livesX, L := L, dp := none, prom := promT, heal := healT, ren := renT }
noncomputable def f93.c0 : Code := loopAt 1 (codeOf Try.f93)
theorem f93.s0_eq {R : Type} (L N m : Nat) (κ : Ex → T → H → Option R) (rec : T → H → Option R) (s13 : LT) (s14 : Int) (s15 : Int) :
    evRd (E93 L N m) (evCallI (E93 L N m) 1 2000) 1000 93 48 1 f93.c0 κ rec (f93.T0 s13 s14 s15) (f93.H0 s13 s14 s15)
    = f93.s0 L N (f93 L N m) (κ (.exit 1) f93.T0_e1 f93.H0_e1) (fun z17 => κ .ret (f93.T0_r z17) (f93.H0_r z17)) (fun s13 s14 s15 => rec (f93.T0 s13 s14 s15) (f93.H0 s13 s14 s15)) s13 s14 s15 := by kernel_rfl
theorem f93.l0_eq {R : Type} (L N m : Nat) (κ : Ex → T → H → Option R) : ∀ (n : Nat) (s13 : LT) (s14 : Int) (s15 : Int),
    evLp (E93 L N m) (evCallI (E93 L N m) 1 2000) 1000 93 48 1 f93.c0 κ n (f93.T0 s13 s14 s15) (f93.H0 s13 s14 s15)
    = f93.l0 L N (f93 L N m) (κ (.exit 1) f93.T0_e1 f93.H0_e1) (fun z17 => κ .ret (f93.T0_r z17) (f93.H0_r z17)) n s13 s14 s15 := by
  intro n
  induction n with
  | zero => intros; rfl
  | succ n ih =>
    intro s13 s14 s15
    rw [evLp_succ, f93.s0_eq]
    simp only [ih]
    rfl
theorem f93.p0_e1_eq {R : Type} (L N m : Nat) (κ : AV → Option R) :
    (contAt (E93 L N m) (evCallI (E93 L N m) 1 2000) 1000 93 48 1 (codeOf Try.f93) (finK (E93 L N m) 1000 Try.f93 (finC (.one .bool) κ))) (.exit 1) f93.T0_e1 f93.H0_e1
    = f93.p0_e1 L N (f93 L N m) (fun a0 => κ (.tv .bool a0)) := by kernel_rfl
theorem f93.p0_r_eq {R : Type} (L N m : Nat) (κ : AV → Option R) (z17 : Bool) :
    (contAt (E93 L N m) (evCallI (E93 L N m) 1 2000) 1000 93 48 1 (codeOf Try.f93) (finK (E93 L N m) 1000 Try.f93 (finC (.one .bool) κ))) .ret (f93.T0_r z17) (f93.H0_r z17)
    = f93.p0_r L N (f93 L N m) (fun a0 => κ (.tv .bool a0)) z17 := by kernel_rfl
theorem f93.b_eq {R : Type} (L N m : Nat) (κ : AV → Option R) (x0 : Tree) :
    evBody (E93 L N m) (evCallI (E93 L N m) 1 2000) 1000 93 Try.f93 [(.tv (.st 1) x0)] [] [] (finC (.one .bool) κ)
    = f93.b L N (f93 L N m) (fun a0 => κ (.tv .bool a0)) x0 := by
  refine Eq.trans (b := f93.b' L N (f93 L N m) (fun a0 => κ (.tv .bool a0)) (fun s13 s14 s15 => evLp (E93 L N m) (evCallI (E93 L N m) 1 2000) 1000 93 48 1 f93.c0 (contAt (E93 L N m) (evCallI (E93 L N m) 1 2000) 1000 93 48 1 (codeOf Try.f93) (finK (E93 L N m) 1000 Try.f93 (finC (.one .bool) κ))) L (f93.T0 s13 s14 s15) (f93.H0 s13 s14 s15)) x0) (by kernel_rfl) ?_
  unfold f93.b
  simp only [f93.l0_eq, f93.p0_e1_eq, f93.p0_r_eq]
theorem f93.ok (L N m : Nat) (hΦ : TellsOk Try.prog (Φ93s L N m)) : EntOk Try.prog 93 (f93.ent L N (m + 1)) := by
  intro args vw site h
  unfold f93.ent
  split
  · rename_i d ha
    intro y hy hs
    refine call_ro (dep := 1000) (E := (E93 L N m)) (rs := (.one .bool)) (κ := unR (.one .bool)) (sound_of hΦ) okP (callI_sound (sound_of hΦ) okP 1 2000) (f := Try.f93) rfl hs ha ?_ (fun _ h => unR_some h) rfl site
    exact (f93.b_eq L N m (unR (.one .bool)) d.1).trans (Eq.trans (b := f93.b L N (f93 L N m) some d.1) (by kernel_rfl) hy)
  · intro y hy
    cases hy
theorem Φ93s_ok (L N : Nat) : ∀ m, TellsOk Try.prog (Φ93s L N m) := by
  intro m
  induction m with
  | zero => exact (addT_ok (Φ92_ok L N) (fun args vw site h => by unfold f93.ent; split <;> (intro y hy; cases hy)))
  | succ m ih => exact (addT_ok (Φ92_ok L N) (f93.ok L N m ih))
def Φ93 (L N : Nat) : Tells := (addT (Φ92 L N) 93 (f93.ent L N N))
theorem Φ93_ok (L N : Nat) : TellsOk Try.prog (Φ93 L N) := Φ93s_ok L N N
def f50.b' {R : Type} (L N : Nat) (k : Bool → Option R) (x0 : Tree) : Option R :=
  (f92 L N N (Tree.mk x0.op x0.n x0.parts) (60 : Int)).bind fun y0 =>
  bif (decide (y0 ≤ (60 : Int))) then
    (f93 L N N (Tree.mk x0.op x0.n x0.parts)).bind fun y1 =>
    k y1
  else k false
def f50.b {R : Type} (L N : Nat) (k : Bool → Option R) (x0 : Tree) : Option R :=
  f50.b' L N k x0
def f50 (L N : Nat) (x0 : Tree) : Option (Bool) := f50.b L N some x0
def f50.ent (L N : Nat) (args : List AV) (vw : View) (site : Nat) : Ans := match roD [(.st 1)] vw args with
  | some d => ⟨Bool, f50 L N d.1, fun y => ((.tv .bool y), [], [])⟩
  | none => Ans.no
noncomputable def E50 (L N : Nat) : Env := { P := Try.prog, ty := tyOf, Φ := (Φ93 L N), inl := inlT, live := lives, liveX := livesX, L := L, dp := none, prom := promT, heal := healT, ren := renT }
theorem f50.b_eq {R : Type} (L N : Nat) (κ : AV → Option R) (x0 : Tree) :
    evBody (E50 L N) (evCallI (E50 L N) 1 2000) 1000 50 Try.f50 [(.tv (.st 1) x0)] [] [] (finC (.one .bool) κ)
    = f50.b L N (fun a0 => κ (.tv .bool a0)) x0 := by kernel_rfl
theorem f50.ok (L N : Nat) (hΦ : TellsOk Try.prog ((Φ93 L N))) : EntOk Try.prog 50 (f50.ent L N) := by
  intro args vw site h
  unfold f50.ent
  split
  · rename_i d ha
    intro y hy hs
    refine call_ro (dep := 1000) (E := (E50 L N)) (rs := (.one .bool)) (κ := unR (.one .bool)) (sound_of hΦ) okP (callI_sound (sound_of hΦ) okP 1 2000) (f := Try.f50) rfl hs ha ?_ (fun _ h => unR_some h) rfl site
    exact (f50.b_eq L N (unR (.one .bool)) d.1).trans (Eq.trans (b := f50.b L N some d.1) (by kernel_rfl) hy)
  · intro y hy
    cases hy
def Φ50 (L N : Nat) : Tells := (addT (Φ93 L N) 50 (f50.ent L N))
theorem Φ50_ok (L N : Nat) : TellsOk Try.prog (Φ50 L N) := addT_ok (Φ93_ok L N) (f50.ok L N (Φ93_ok L N))
def f63.s0' {R : Type} (L N : Nat) (self63 : Graph → Tree → Option (LB)) (k0_e0 : LLM → Int → Int → LT → LB → LLB → Option R) (rec0 : LT → Int → Int → LLM → Int → Int → LT → LB → LLB → Option R) (s0 : LT) (s1 : Int) (s2 : Int) (s3 : LLM) (s4 : Int) (s5 : Int) (s6 : LT) (s7 : LB) (s8 : LLB) : Option R :=
  bif (decide (s2 < s1)) then
    bif (decide (0 ≤ s2) && decide (s2 < (s0.length : Int))) then
      (self63 (Graph.mk s3) (Tree.mk ((listAt s0 (Ty.dflt (.st 1)) s2.toNat).op) ((listAt s0 (Ty.dflt (.st 1)) s2.toNat).n) ((listAt s0 (Ty.dflt (.st 1)) s2.toNat).parts))).bind fun y15 =>
      bif (decide (s8.length + ([y15] : LLB).length ≤ lim)) then
        rec0 s0 s1 (wi (s2 + (1 : Int))) s3 s4 s5 s6 s7 (s8 ++ ([y15] : LLB))
      else none
    else none
  else k0_e0 s3 s4 s5 s6 s7 s8
def f63.s0 {R : Type} (L N : Nat) (self63 : Graph → Tree → Option (LB)) (k0_e0 : LLM → Int → Int → LT → LB → LLB → Option R) (rec0 : LT → Int → Int → LLM → Int → Int → LT → LB → LLB → Option R) (s0 : LT) (s1 : Int) (s2 : Int) (s3 : LLM) (s4 : Int) (s5 : Int) (s6 : LT) (s7 : LB) (s8 : LLB) : Option R :=
  f63.s0' L N self63 k0_e0 rec0 s0 s1 s2 s3 s4 s5 s6 s7 s8
def f63.l0 {R : Type} (L N : Nat) (self63 : Graph → Tree → Option (LB)) (k0_e0 : LLM → Int → Int → LT → LB → LLB → Option R) : Nat → LT → Int → Int → LLM → Int → Int → LT → LB → LLB → Option R
  | 0, _, _, _, _, _, _, _, _, _ => none
  | n + 1, s0, s1, s2, s3, s4, s5, s6, s7, s8 => f63.s0 L N self63 k0_e0 (f63.l0 L N self63 k0_e0 n) s0 s1 s2 s3 s4 s5 s6 s7 s8
def f63.T0 (s0 : LT) (s1 : Int) (s2 : Int) (s3 : LLM) (s4 : Int) (s5 : Int) (s6 : LT) (s7 : LB) (s8 : LLB) : T := mkT 110 [(2, (.ptr 1002 0)), (3, (.ptr 1003 0)), (5, (.row 1015)), (6, (.row 1016)), (18, (.tv (.sl (.st 1)) s0)), (19, (.tv i64 s1)), (20, (.tv i64 s2))]
def f63.H0 (s0 : LT) (s1 : Int) (s2 : Int) (s3 : LLM) (s4 : Int) (s5 : Int) (s6 : LT) (s7 : LB) (s8 : LLB) : H := [(1002, (.box [(.tv (.sl (.sl (.st 0))) s3)])), (1003, (.box [(.tv i64 s4), (.tv i64 s5), (.tv (.sl (.st 1)) s6)])), (1015, (.row 4 .bool s7)), (1016, (.row 71 (.sl .bool) s8))]
def f63.T0_e0 (z9 : LLM) (z10 : Int) (z11 : Int) (z12 : LT) (z13 : LB) (z14 : LLB) : T := mkT 110 [(2, (.ptr 1002 0)), (3, (.ptr 1003 0)), (5, (.row 1015)), (6, (.row 1016))]
def f63.H0_e0 (z9 : LLM) (z10 : Int) (z11 : Int) (z12 : LT) (z13 : LB) (z14 : LLB) : H := [(1002, (.box [(.tv (.sl (.sl (.st 0))) z9)])), (1003, (.box [(.tv i64 z10), (.tv i64 z11), (.tv (.sl (.st 1)) z12)])), (1015, (.row 4 .bool z13)), (1016, (.row 71 (.sl .bool) z14))]
def f63.s2' {R : Type} (L N : Nat) (self63 : Graph → Tree → Option (LB)) (k2_e5 : Int → Int → LLM → Int → Int → LT → LB → LLB → Option R) (rec2 : Int → Int → Int → LM → Int → Int → LLM → Int → Int → LT → LB → LLB → Option R) (s25 : Int) (s26 : Int) (s27 : Int) (s28 : LM) (s29 : Int) (s30 : Int) (s31 : LLM) (s32 : Int) (s33 : Int) (s34 : LT) (s35 : LB) (s36 : LLB) : Option R :=
  bif (decide (s30 < s29)) then
    bif (decide (0 ≤ s30) && decide (s30 < (s28.length : Int))) then
      bif (decide (0 ≤ s25) && decide (s25 < (s35.length : Int))) then
        bif (listAt s35 false s25.toNat) then
          bif (decide (0 ≤ s25) && decide (s25 < (s35.length : Int))) then
            rec2 s25 s26 s27 s28 s29 (wi (s30 + (1 : Int))) s31 s32 s33 s34 (s35.set s25.toNat true) s36
          else none
        else bif ((listAt s28 (Ty.dflt (.st 0)) s30.toNat).act == s33) then
          bif (decide (0 ≤ (0 : Int)) && decide ((0 : Int) < (s36.length : Int))) then
            bif (decide (0 ≤ (listAt s28 (Ty.dflt (.st 0)) s30.toNat).to) && decide ((listAt s28 (Ty.dflt (.st 0)) s30.toNat).to < ((listAt s36 [] (0 : Int).toNat).length : Int))) then
              bif (decide (0 ≤ s25) && decide (s25 < (s35.length : Int))) then
                rec2 s25 s26 s27 s28 s29 (wi (s30 + (1 : Int))) s31 s32 s33 s34 (s35.set s25.toNat (listAt (listAt s36 [] (0 : Int).toNat) false ((listAt s28 (Ty.dflt (.st 0)) s30.toNat).to).toNat)) s36
              else none
            else none
          else none
        else bif (decide (0 ≤ s25) && decide (s25 < (s35.length : Int))) then
          rec2 s25 s26 s27 s28 s29 (wi (s30 + (1 : Int))) s31 s32 s33 s34 (s35.set s25.toNat false) s36
        else none
      else none
    else none
  else k2_e5 s26 s27 s31 s32 s33 s34 s35 s36
def f63.s2 {R : Type} (L N : Nat) (self63 : Graph → Tree → Option (LB)) (k2_e5 : Int → Int → LLM → Int → Int → LT → LB → LLB → Option R) (rec2 : Int → Int → Int → LM → Int → Int → LLM → Int → Int → LT → LB → LLB → Option R) (s25 : Int) (s26 : Int) (s27 : Int) (s28 : LM) (s29 : Int) (s30 : Int) (s31 : LLM) (s32 : Int) (s33 : Int) (s34 : LT) (s35 : LB) (s36 : LLB) : Option R :=
  f63.s2' L N self63 k2_e5 rec2 s25 s26 s27 s28 s29 s30 s31 s32 s33 s34 s35 s36
def f63.l2 {R : Type} (L N : Nat) (self63 : Graph → Tree → Option (LB)) (k2_e5 : Int → Int → LLM → Int → Int → LT → LB → LLB → Option R) : Nat → Int → Int → Int → LM → Int → Int → LLM → Int → Int → LT → LB → LLB → Option R
  | 0, _, _, _, _, _, _, _, _, _, _, _, _ => none
  | n + 1, s25, s26, s27, s28, s29, s30, s31, s32, s33, s34, s35, s36 => f63.s2 L N self63 k2_e5 (f63.l2 L N self63 k2_e5 n) s25 s26 s27 s28 s29 s30 s31 s32 s33 s34 s35 s36
def f63.T2 (s25 : Int) (s26 : Int) (s27 : Int) (s28 : LM) (s29 : Int) (s30 : Int) (s31 : LLM) (s32 : Int) (s33 : Int) (s34 : LT) (s35 : LB) (s36 : LLB) : T := mkT 110 [(2, (.ptr 1002 0)), (3, (.ptr 1003 0)), (5, (.row 1015)), (6, (.row 1016)), (9, (.tv i64 s25)), (32, (.tv i64 s26)), (33, (.tv i64 s27)), (42, (.tv (.sl (.st 0)) s28)), (43, (.tv i64 s29)), (44, (.tv i64 s30))]
def f63.H2 (s25 : Int) (s26 : Int) (s27 : Int) (s28 : LM) (s29 : Int) (s30 : Int) (s31 : LLM) (s32 : Int) (s33 : Int) (s34 : LT) (s35 : LB) (s36 : LLB) : H := [(1002, (.box [(.tv (.sl (.sl (.st 0))) s31)])), (1003, (.box [(.tv i64 s32), (.tv i64 s33), (.tv (.sl (.st 1)) s34)])), (1015, (.row 4 .bool s35)), (1016, (.row 71 (.sl .bool) s36))]
def f63.T2_e5 (z37 : Int) (z38 : Int) (z39 : LLM) (z40 : Int) (z41 : Int) (z42 : LT) (z43 : LB) (z44 : LLB) : T := mkT 110 [(2, (.ptr 1002 0)), (3, (.ptr 1003 0)), (5, (.row 1015)), (6, (.row 1016)), (32, (.tv i64 z37)), (33, (.tv i64 z38))]
def f63.H2_e5 (z37 : Int) (z38 : Int) (z39 : LLM) (z40 : Int) (z41 : Int) (z42 : LT) (z43 : LB) (z44 : LLB) : H := [(1002, (.box [(.tv (.sl (.sl (.st 0))) z39)])), (1003, (.box [(.tv i64 z40), (.tv i64 z41), (.tv (.sl (.st 1)) z42)])), (1015, (.row 4 .bool z43)), (1016, (.row 71 (.sl .bool) z44))]
def f63.p2_e5' {R : Type} (L N : Nat) (self63 : Graph → Tree → Option (LB)) (k1_e2 : LB → Option R) (rec1 : Int → Int → LLM → Int → Int → LT → LB → LLB → Option R) (z37 : Int) (z38 : Int) (z39 : LLM) (z40 : Int) (z41 : Int) (z42 : LT) (z43 : LB) (z44 : LLB) : Option R :=
  rec1 z37 (wi (z38 + (1 : Int))) z39 z40 z41 z42 z43 z44
def f63.p2_e5 {R : Type} (L N : Nat) (self63 : Graph → Tree → Option (LB)) (k1_e2 : LB → Option R) (rec1 : Int → Int → LLM → Int → Int → LT → LB → LLB → Option R) (z37 : Int) (z38 : Int) (z39 : LLM) (z40 : Int) (z41 : Int) (z42 : LT) (z43 : LB) (z44 : LLB) : Option R :=
  f63.p2_e5' L N self63 k1_e2 rec1 z37 z38 z39 z40 z41 z42 z43 z44
def f63.s1' {R : Type} (L N : Nat) (self63 : Graph → Tree → Option (LB)) (k1_e2 : LB → Option R) (rec1 : Int → Int → LLM → Int → Int → LT → LB → LLB → Option R) (w2 : Int → Int → Int → LM → Int → Int → LLM → Int → Int → LT → LB → LLB → Option R) (s16 : Int) (s17 : Int) (s18 : LLM) (s19 : Int) (s20 : Int) (s21 : LT) (s22 : LB) (s23 : LLB) : Option R :=
  bif (decide (s17 < s16)) then
    bif (s19 == (0 : Int)) then
      bif (decide (0 ≤ s17) && decide (s17 < (s22.length : Int))) then
        rec1 s16 (wi (s17 + (1 : Int))) s18 s19 s20 s21 (s22.set s17.toNat true) s23
      else none
    else bif (s19 == (1 : Int)) then
      bif (decide (0 ≤ (0 : Int)) && decide ((0 : Int) < (s23.length : Int))) then
        bif (decide (0 ≤ s17) && decide (s17 < ((listAt s23 [] (0 : Int).toNat).length : Int))) then
          bif (decide (0 ≤ s17) && decide (s17 < (s22.length : Int))) then
            rec1 s16 (wi (s17 + (1 : Int))) s18 s19 s20 s21 (s22.set s17.toNat (!(listAt (listAt s23 [] (0 : Int).toNat) false s17.toNat))) s23
          else none
        else none
      else none
    else bif (s19 == (2 : Int)) then
      bif (decide (0 ≤ (0 : Int)) && decide ((0 : Int) < (s23.length : Int))) then
        bif (decide (0 ≤ s17) && decide (s17 < ((listAt s23 [] (0 : Int).toNat).length : Int))) then
          bif (listAt (listAt s23 [] (0 : Int).toNat) false s17.toNat) then
            bif (decide (0 ≤ (1 : Int)) && decide ((1 : Int) < (s23.length : Int))) then
              bif (decide (0 ≤ s17) && decide (s17 < ((listAt s23 [] (1 : Int).toNat).length : Int))) then
                bif (decide (0 ≤ s17) && decide (s17 < (s22.length : Int))) then
                  rec1 s16 (wi (s17 + (1 : Int))) s18 s19 s20 s21 (s22.set s17.toNat (listAt (listAt s23 [] (1 : Int).toNat) false s17.toNat)) s23
                else none
              else none
            else none
          else bif (decide (0 ≤ s17) && decide (s17 < (s22.length : Int))) then
            rec1 s16 (wi (s17 + (1 : Int))) s18 s19 s20 s21 (s22.set s17.toNat false) s23
          else none
        else none
      else none
    else bif (decide (0 ≤ s17) && decide (s17 < (s18.length : Int))) then
      w2 s17 s16 s17 (listAt s18 [] s17.toNat) ((listAt s18 [] s17.toNat).length : Int) (0 : Int) s18 s19 s20 s21 s22 s23
    else none
  else k1_e2 s22
def f63.s1 {R : Type} (L N : Nat) (self63 : Graph → Tree → Option (LB)) (k1_e2 : LB → Option R) (rec1 : Int → Int → LLM → Int → Int → LT → LB → LLB → Option R) (s16 : Int) (s17 : Int) (s18 : LLM) (s19 : Int) (s20 : Int) (s21 : LT) (s22 : LB) (s23 : LLB) : Option R :=
  f63.s1' L N self63 k1_e2 rec1 (fun s25 s26 s27 s28 s29 s30 s31 s32 s33 s34 s35 s36 => f63.l2 L N self63 (fun z37 z38 z39 z40 z41 z42 z43 z44 => f63.p2_e5 L N self63 k1_e2 rec1 z37 z38 z39 z40 z41 z42 z43 z44) L s25 s26 s27 s28 s29 s30 s31 s32 s33 s34 s35 s36) s16 s17 s18 s19 s20 s21 s22 s23
def f63.l1 {R : Type} (L N : Nat) (self63 : Graph → Tree → Option (LB)) (k1_e2 : LB → Option R) : Nat → Int → Int → LLM → Int → Int → LT → LB → LLB → Option R
  | 0, _, _, _, _, _, _, _, _ => none
  | n + 1, s16, s17, s18, s19, s20, s21, s22, s23 => f63.s1 L N self63 k1_e2 (f63.l1 L N self63 k1_e2 n) s16 s17 s18 s19 s20 s21 s22 s23
def f63.T1 (s16 : Int) (s17 : Int) (s18 : LLM) (s19 : Int) (s20 : Int) (s21 : LT) (s22 : LB) (s23 : LLB) : T := mkT 110 [(2, (.ptr 1002 0)), (3, (.ptr 1003 0)), (5, (.row 1015)), (6, (.row 1016)), (32, (.tv i64 s16)), (33, (.tv i64 s17))]
def f63.H1 (s16 : Int) (s17 : Int) (s18 : LLM) (s19 : Int) (s20 : Int) (s21 : LT) (s22 : LB) (s23 : LLB) : H := [(1002, (.box [(.tv (.sl (.sl (.st 0))) s18)])), (1003, (.box [(.tv i64 s19), (.tv i64 s20), (.tv (.sl (.st 1)) s21)])), (1015, (.row 4 .bool s22)), (1016, (.row 71 (.sl .bool) s23))]
def f63.T1_e2 (z24 : LB) : T := mkT 110 [(5, (.row 1015))]
def f63.H1_e2 (z24 : LB) : H := [(1015, (.row 4 .bool z24))]
def f63.p1_e2' {R : Type} (L N : Nat) (self63 : Graph → Tree → Option (LB)) (k : LB → Option R) (z24 : LB) : Option R :=
  k z24
def f63.p1_e2 {R : Type} (L N : Nat) (self63 : Graph → Tree → Option (LB)) (k : LB → Option R) (z24 : LB) : Option R :=
  f63.p1_e2' L N self63 k z24
def f63.p0_e0' {R : Type} (L N : Nat) (self63 : Graph → Tree → Option (LB)) (k : LB → Option R) (w1 : Int → Int → LLM → Int → Int → LT → LB → LLB → Option R) (z9 : LLM) (z10 : Int) (z11 : Int) (z12 : LT) (z13 : LB) (z14 : LLB) : Option R :=
  w1 (z13.length : Int) (0 : Int) z9 z10 z11 z12 z13 z14
def f63.p0_e0 {R : Type} (L N : Nat) (self63 : Graph → Tree → Option (LB)) (k : LB → Option R) (z9 : LLM) (z10 : Int) (z11 : Int) (z12 : LT) (z13 : LB) (z14 : LLB) : Option R :=
  f63.p0_e0' L N self63 k (fun s16 s17 s18 s19 s20 s21 s22 s23 => f63.l1 L N self63 (fun z24 => f63.p1_e2 L N self63 k z24) L s16 s17 s18 s19 s20 s21 s22 s23) z9 z10 z11 z12 z13 z14
def f63.b' {R : Type} (L N : Nat) (self63 : Graph → Tree → Option (LB)) (k : LB → Option R) (w0 : LT → Int → Int → LLM → Int → Int → LT → LB → LLB → Option R) (x0 : Graph) (x1 : Tree) : Option R :=
  bif (decide (0 ≤ (x0.moves.length : Int)) && decide ((x0.moves.length : Int) ≤ (lim : Int))) then
    w0 x1.parts (x1.parts.length : Int) (0 : Int) x0.moves x1.op x1.n x1.parts (List.replicate (x0.moves.length : Int).toNat false) ([] : LLB)
  else none
def f63.b {R : Type} (L N : Nat) (self63 : Graph → Tree → Option (LB)) (k : LB → Option R) (x0 : Graph) (x1 : Tree) : Option R :=
  f63.b' L N self63 k (fun s0 s1 s2 s3 s4 s5 s6 s7 s8 => f63.l0 L N self63 (fun z9 z10 z11 z12 z13 z14 => f63.p0_e0 L N self63 k z9 z10 z11 z12 z13 z14) L s0 s1 s2 s3 s4 s5 s6 s7 s8) x0 x1
def f63 (L N : Nat) : Nat → Graph → Tree → Option (LB)
  | 0, _, _ => none
  | n + 1, x0, x1 => f63.b L N (f63 L N n) some x0 x1
def f63.ent (L N m : Nat) (args : List AV) (vw : View) (site : Nat) : Ans := match coeD [(.st 2), (.st 1)] vw args with
  | some (d, u) => ⟨LB, f63 L N m d.1 d.2.1, fun y => ((.tv (.sl .bool) y), u, [])⟩
  | none => Ans.no
def Φ63s (L N m : Nat) : Tells := (addT (Φ50 L N) 63 (f63.ent L N m))
noncomputable def E63 (L N m : Nat) : Env := { P := Try.prog, ty := tyOf, Φ := Φ63s L N m, inl := inlT, live := lives, liveX := livesX, L := L, dp := none, prom := promT, heal := healT, ren := renT }
noncomputable def f63.c0 : Code := loopAt 0 (codeOf Try.f63)
theorem f63.s0_eq {R : Type} (L N m : Nat) (κ : Ex → T → H → Option R) (rec : T → H → Option R) (s0 : LT) (s1 : Int) (s2 : Int) (s3 : LLM) (s4 : Int) (s5 : Int) (s6 : LT) (s7 : LB) (s8 : LLB) :
    evRd (E63 L N m) (evCallI (E63 L N m) 1 2000) 1000 63 110 0 f63.c0 κ rec (f63.T0 s0 s1 s2 s3 s4 s5 s6 s7 s8) (f63.H0 s0 s1 s2 s3 s4 s5 s6 s7 s8)
    = f63.s0 L N (f63 L N m) (fun z9 z10 z11 z12 z13 z14 => κ (.exit 0) (f63.T0_e0 z9 z10 z11 z12 z13 z14) (f63.H0_e0 z9 z10 z11 z12 z13 z14)) (fun s0 s1 s2 s3 s4 s5 s6 s7 s8 => rec (f63.T0 s0 s1 s2 s3 s4 s5 s6 s7 s8) (f63.H0 s0 s1 s2 s3 s4 s5 s6 s7 s8)) s0 s1 s2 s3 s4 s5 s6 s7 s8 := by kernel_rfl
theorem f63.l0_eq {R : Type} (L N m : Nat) (κ : Ex → T → H → Option R) : ∀ (n : Nat) (s0 : LT) (s1 : Int) (s2 : Int) (s3 : LLM) (s4 : Int) (s5 : Int) (s6 : LT) (s7 : LB) (s8 : LLB),
    evLp (E63 L N m) (evCallI (E63 L N m) 1 2000) 1000 63 110 0 f63.c0 κ n (f63.T0 s0 s1 s2 s3 s4 s5 s6 s7 s8) (f63.H0 s0 s1 s2 s3 s4 s5 s6 s7 s8)
    = f63.l0 L N (f63 L N m) (fun z9 z10 z11 z12 z13 z14 => κ (.exit 0) (f63.T0_e0 z9 z10 z11 z12 z13 z14) (f63.H0_e0 z9 z10 z11 z12 z13 z14)) n s0 s1 s2 s3 s4 s5 s6 s7 s8 := by
  intro n
  induction n with
  | zero => intros; rfl
  | succ n ih =>
    intro s0 s1 s2 s3 s4 s5 s6 s7 s8
    rw [evLp_succ, f63.s0_eq]
    simp only [ih]
    rfl
noncomputable def f63.c1 : Code := loopAt 2 (codeOf Try.f63)
noncomputable def f63.c2 : Code := loopAt 5 f63.c1
theorem f63.s2_eq {R : Type} (L N m : Nat) (κ : Ex → T → H → Option R) (rec : T → H → Option R) (s25 : Int) (s26 : Int) (s27 : Int) (s28 : LM) (s29 : Int) (s30 : Int) (s31 : LLM) (s32 : Int) (s33 : Int) (s34 : LT) (s35 : LB) (s36 : LLB) :
    evRd (E63 L N m) (evCallI (E63 L N m) 1 2000) 1000 63 110 5 f63.c2 κ rec (f63.T2 s25 s26 s27 s28 s29 s30 s31 s32 s33 s34 s35 s36) (f63.H2 s25 s26 s27 s28 s29 s30 s31 s32 s33 s34 s35 s36)
    = f63.s2 L N (f63 L N m) (fun z37 z38 z39 z40 z41 z42 z43 z44 => κ (.exit 5) (f63.T2_e5 z37 z38 z39 z40 z41 z42 z43 z44) (f63.H2_e5 z37 z38 z39 z40 z41 z42 z43 z44)) (fun s25 s26 s27 s28 s29 s30 s31 s32 s33 s34 s35 s36 => rec (f63.T2 s25 s26 s27 s28 s29 s30 s31 s32 s33 s34 s35 s36) (f63.H2 s25 s26 s27 s28 s29 s30 s31 s32 s33 s34 s35 s36)) s25 s26 s27 s28 s29 s30 s31 s32 s33 s34 s35 s36 := by kernel_rfl
theorem f63.l2_eq {R : Type} (L N m : Nat) (κ : Ex → T → H → Option R) : ∀ (n : Nat) (s25 : Int) (s26 : Int) (s27 : Int) (s28 : LM) (s29 : Int) (s30 : Int) (s31 : LLM) (s32 : Int) (s33 : Int) (s34 : LT) (s35 : LB) (s36 : LLB),
    evLp (E63 L N m) (evCallI (E63 L N m) 1 2000) 1000 63 110 5 f63.c2 κ n (f63.T2 s25 s26 s27 s28 s29 s30 s31 s32 s33 s34 s35 s36) (f63.H2 s25 s26 s27 s28 s29 s30 s31 s32 s33 s34 s35 s36)
    = f63.l2 L N (f63 L N m) (fun z37 z38 z39 z40 z41 z42 z43 z44 => κ (.exit 5) (f63.T2_e5 z37 z38 z39 z40 z41 z42 z43 z44) (f63.H2_e5 z37 z38 z39 z40 z41 z42 z43 z44)) n s25 s26 s27 s28 s29 s30 s31 s32 s33 s34 s35 s36 := by
  intro n
  induction n with
  | zero => intros; rfl
  | succ n ih =>
    intro s25 s26 s27 s28 s29 s30 s31 s32 s33 s34 s35 s36
    rw [evLp_succ, f63.s2_eq]
    simp only [ih]
    rfl
theorem f63.p2_e5_eq {R : Type} (L N m : Nat) (κ : Ex → T → H → Option R) (rec : T → H → Option R) (z37 : Int) (z38 : Int) (z39 : LLM) (z40 : Int) (z41 : Int) (z42 : LT) (z43 : LB) (z44 : LLB) :
    (contAt (E63 L N m) (evCallI (E63 L N m) 1 2000) 1000 63 110 5 f63.c1 (rdK (E63 L N m) 1000 63 110 2 κ rec)) (.exit 5) (f63.T2_e5 z37 z38 z39 z40 z41 z42 z43 z44) (f63.H2_e5 z37 z38 z39 z40 z41 z42 z43 z44)
    = f63.p2_e5 L N (f63 L N m) (fun z24 => κ (.exit 2) (f63.T1_e2 z24) (f63.H1_e2 z24)) (fun s16 s17 s18 s19 s20 s21 s22 s23 => rec (f63.T1 s16 s17 s18 s19 s20 s21 s22 s23) (f63.H1 s16 s17 s18 s19 s20 s21 s22 s23)) z37 z38 z39 z40 z41 z42 z43 z44 := by kernel_rfl
theorem f63.s1_eq {R : Type} (L N m : Nat) (κ : Ex → T → H → Option R) (rec : T → H → Option R) (s16 : Int) (s17 : Int) (s18 : LLM) (s19 : Int) (s20 : Int) (s21 : LT) (s22 : LB) (s23 : LLB) :
    evRd (E63 L N m) (evCallI (E63 L N m) 1 2000) 1000 63 110 2 f63.c1 κ rec (f63.T1 s16 s17 s18 s19 s20 s21 s22 s23) (f63.H1 s16 s17 s18 s19 s20 s21 s22 s23)
    = f63.s1 L N (f63 L N m) (fun z24 => κ (.exit 2) (f63.T1_e2 z24) (f63.H1_e2 z24)) (fun s16 s17 s18 s19 s20 s21 s22 s23 => rec (f63.T1 s16 s17 s18 s19 s20 s21 s22 s23) (f63.H1 s16 s17 s18 s19 s20 s21 s22 s23)) s16 s17 s18 s19 s20 s21 s22 s23 := by
  refine Eq.trans (b := f63.s1' L N (f63 L N m) (fun z24 => κ (.exit 2) (f63.T1_e2 z24) (f63.H1_e2 z24)) (fun s16 s17 s18 s19 s20 s21 s22 s23 => rec (f63.T1 s16 s17 s18 s19 s20 s21 s22 s23) (f63.H1 s16 s17 s18 s19 s20 s21 s22 s23)) (fun s25 s26 s27 s28 s29 s30 s31 s32 s33 s34 s35 s36 => evLp (E63 L N m) (evCallI (E63 L N m) 1 2000) 1000 63 110 5 f63.c2 (contAt (E63 L N m) (evCallI (E63 L N m) 1 2000) 1000 63 110 5 f63.c1 (rdK (E63 L N m) 1000 63 110 2 κ rec)) L (f63.T2 s25 s26 s27 s28 s29 s30 s31 s32 s33 s34 s35 s36) (f63.H2 s25 s26 s27 s28 s29 s30 s31 s32 s33 s34 s35 s36)) s16 s17 s18 s19 s20 s21 s22 s23) (by kernel_rfl) ?_
  unfold f63.s1
  simp only [f63.l2_eq, f63.p2_e5_eq]
theorem f63.l1_eq {R : Type} (L N m : Nat) (κ : Ex → T → H → Option R) : ∀ (n : Nat) (s16 : Int) (s17 : Int) (s18 : LLM) (s19 : Int) (s20 : Int) (s21 : LT) (s22 : LB) (s23 : LLB),
    evLp (E63 L N m) (evCallI (E63 L N m) 1 2000) 1000 63 110 2 f63.c1 κ n (f63.T1 s16 s17 s18 s19 s20 s21 s22 s23) (f63.H1 s16 s17 s18 s19 s20 s21 s22 s23)
    = f63.l1 L N (f63 L N m) (fun z24 => κ (.exit 2) (f63.T1_e2 z24) (f63.H1_e2 z24)) n s16 s17 s18 s19 s20 s21 s22 s23 := by
  intro n
  induction n with
  | zero => intros; rfl
  | succ n ih =>
    intro s16 s17 s18 s19 s20 s21 s22 s23
    rw [evLp_succ, f63.s1_eq]
    simp only [ih]
    rfl
theorem f63.p1_e2_eq {R : Type} (L N m : Nat) (κ : AV → Option R) (z24 : LB) :
    (contAt (E63 L N m) (evCallI (E63 L N m) 1 2000) 1000 63 110 2 (codeOf Try.f63) (finK (E63 L N m) 1000 Try.f63 (finC (.one (.sl .bool)) κ))) (.exit 2) (f63.T1_e2 z24) (f63.H1_e2 z24)
    = f63.p1_e2 L N (f63 L N m) (fun a0 => κ (.tv (.sl .bool) a0)) z24 := by kernel_rfl
theorem f63.p0_e0_eq {R : Type} (L N m : Nat) (κ : AV → Option R) (z9 : LLM) (z10 : Int) (z11 : Int) (z12 : LT) (z13 : LB) (z14 : LLB) :
    (contAt (E63 L N m) (evCallI (E63 L N m) 1 2000) 1000 63 110 0 (codeOf Try.f63) (finK (E63 L N m) 1000 Try.f63 (finC (.one (.sl .bool)) κ))) (.exit 0) (f63.T0_e0 z9 z10 z11 z12 z13 z14) (f63.H0_e0 z9 z10 z11 z12 z13 z14)
    = f63.p0_e0 L N (f63 L N m) (fun a0 => κ (.tv (.sl .bool) a0)) z9 z10 z11 z12 z13 z14 := by
  refine Eq.trans (b := f63.p0_e0' L N (f63 L N m) (fun a0 => κ (.tv (.sl .bool) a0)) (fun s16 s17 s18 s19 s20 s21 s22 s23 => evLp (E63 L N m) (evCallI (E63 L N m) 1 2000) 1000 63 110 2 f63.c1 (contAt (E63 L N m) (evCallI (E63 L N m) 1 2000) 1000 63 110 2 (codeOf Try.f63) (finK (E63 L N m) 1000 Try.f63 (finC (.one (.sl .bool)) κ))) L (f63.T1 s16 s17 s18 s19 s20 s21 s22 s23) (f63.H1 s16 s17 s18 s19 s20 s21 s22 s23)) z9 z10 z11 z12 z13 z14) (by kernel_rfl) ?_
  unfold f63.p0_e0
  simp only [f63.l1_eq, f63.p1_e2_eq]
theorem f63.b_eq {R : Type} (L N m : Nat) (κ : AV → Option R) (x0 : Graph) (x1 : Tree) :
    evBody (E63 L N m) (evCallI (E63 L N m) 1 2000) 1000 63 Try.f63 [(.tv (.st 2) x0), (.tv (.st 1) x1)] [] [] (finC (.one (.sl .bool)) κ)
    = f63.b L N (f63 L N m) (fun a0 => κ (.tv (.sl .bool) a0)) x0 x1 := by
  refine Eq.trans (b := f63.b' L N (f63 L N m) (fun a0 => κ (.tv (.sl .bool) a0)) (fun s0 s1 s2 s3 s4 s5 s6 s7 s8 => evLp (E63 L N m) (evCallI (E63 L N m) 1 2000) 1000 63 110 0 f63.c0 (contAt (E63 L N m) (evCallI (E63 L N m) 1 2000) 1000 63 110 0 (codeOf Try.f63) (finK (E63 L N m) 1000 Try.f63 (finC (.one (.sl .bool)) κ))) L (f63.T0 s0 s1 s2 s3 s4 s5 s6 s7 s8) (f63.H0 s0 s1 s2 s3 s4 s5 s6 s7 s8)) x0 x1) (by kernel_rfl) ?_
  unfold f63.b
  simp only [f63.l0_eq, f63.p0_e0_eq]
theorem f63.ok (L N m : Nat) (hΦ : TellsOk Try.prog (Φ63s L N m)) : EntOk Try.prog 63 (f63.ent L N (m + 1)) := by
  intro args vw site h
  unfold f63.ent
  split
  · rename_i d u ha
    intro y hy hs
    refine call_data (dep := 1000) (E := (E63 L N m)) (rs := (.one (.sl .bool))) (κ := unR (.one (.sl .bool))) (sound_of hΦ) okP (callI_sound (sound_of hΦ) okP 1 2000) (f := Try.f63) rfl hs ha ?_ (fun _ h => unR_some h) site
    exact (f63.b_eq L N m (unR (.one (.sl .bool))) d.1 d.2.1).trans (Eq.trans (b := f63.b L N (f63 L N m) some d.1 d.2.1) (by kernel_rfl) hy)
  · intro y hy
    cases hy
theorem Φ63s_ok (L N : Nat) : ∀ m, TellsOk Try.prog (Φ63s L N m) := by
  intro m
  induction m with
  | zero => exact (addT_ok (Φ50_ok L N) (fun args vw site h => by unfold f63.ent; split <;> (intro y hy; cases hy)))
  | succ m ih => exact (addT_ok (Φ50_ok L N) (f63.ok L N m ih))
def Φ63 (L N : Nat) : Tells := (addT (Φ50 L N) 63 (f63.ent L N N))
theorem Φ63_ok (L N : Nat) : TellsOk Try.prog (Φ63 L N) := Φ63s_ok L N N
def f20.s0' {R : Type} (L N : Nat) (k0_e0 : LI → Option R) (rec0 : LB → Int → Int → LI → Option R) (s14 : LB) (s15 : Int) (s16 : Int) (s17 : LI) : Option R :=
  bif (decide (s16 < s15)) then
    bif (decide (0 ≤ s16) && decide (s16 < (s14.length : Int))) then
      bif (listAt s14 false s16.toNat) then
        bif (decide (s17.length + ([s16] : LI).length ≤ lim)) then
          rec0 s14 s15 (wi (s16 + (1 : Int))) (s17 ++ ([s16] : LI))
        else none
      else rec0 s14 s15 (wi (s16 + (1 : Int))) s17
    else none
  else k0_e0 s17
def f20.s0 {R : Type} (L N : Nat) (k0_e0 : LI → Option R) (rec0 : LB → Int → Int → LI → Option R) (s14 : LB) (s15 : Int) (s16 : Int) (s17 : LI) : Option R :=
  f20.s0' L N k0_e0 rec0 s14 s15 s16 s17
def f20.l0 {R : Type} (L N : Nat) (k0_e0 : LI → Option R) : Nat → LB → Int → Int → LI → Option R
  | 0, _, _, _, _ => none
  | n + 1, s14, s15, s16, s17 => f20.s0 L N k0_e0 (f20.l0 L N k0_e0 n) s14 s15 s16 s17
def f20.T0 (s14 : LB) (s15 : Int) (s16 : Int) (s17 : LI) : T := mkT 34 [(5, (.row 1008)), (20, (.tv (.sl .bool) s14)), (21, (.tv i64 s15)), (22, (.tv i64 s16))]
def f20.H0 (s14 : LB) (s15 : Int) (s16 : Int) (s17 : LI) : H := [(1008, (.row 3 i64 s17))]
def f20.T0_e0 (z18 : LI) : T := mkT 34 [(5, (.row 1008))]
def f20.H0_e0 (z18 : LI) : H := [(1008, (.row 3 i64 z18))]
def f20.p0_e0' {R : Type} (L N : Nat) (k : LI → Option R) (z18 : LI) : Option R :=
  k z18
def f20.p0_e0 {R : Type} (L N : Nat) (k : LI → Option R) (z18 : LI) : Option R :=
  f20.p0_e0' L N k z18
def f20.j0' {R : Type} (L N : Nat) (k : LI → Option R) (w0 : LB → Int → Int → LI → Option R) (v8 : LLM) (v9 : Int) (v10 : Int) (v11 : LT) (v12 : LI) : Option R :=
  (f63 L N N (Graph.mk v8) (Tree.mk v9 v10 v11)).bind fun y13 =>
  w0 y13 (y13.length : Int) (0 : Int) v12
def f20.b' {R : Type} (L N : Nat) (k : LI → Option R) (w0 : LB → Int → Int → LI → Option R) (x0 : Graph) (x1 : Tree) : Option R :=
  (f32 L N (Graph.mk x0.moves)).bind fun y0 =>
  bif (!y0) then
    k ([] : LI)
  else (f50 L N (Tree.mk x1.op x1.n x1.parts)).bind fun y1 =>
  bif (!y1) then
    k ([] : LI)
  else f20.j0' L N k w0 x0.moves x1.op x1.n x1.parts ([] : LI)
def f20.b {R : Type} (L N : Nat) (k : LI → Option R) (x0 : Graph) (x1 : Tree) : Option R :=
  f20.b' L N k (fun s14 s15 s16 s17 => f20.l0 L N (fun z18 => f20.p0_e0 L N k z18) L s14 s15 s16 s17) x0 x1
def f20 (L N : Nat) (x0 : Graph) (x1 : Tree) : Option (LI) := f20.b L N some x0 x1
def f20.ent (L N : Nat) (args : List AV) (vw : View) (site : Nat) : Ans := match roD [(.st 2), (.st 1)] vw args with
  | some d => ⟨LI, f20 L N d.1 d.2.1, fun y => (RN.av site .row (), [(site, some (mkO none 3 i64 y))], [])⟩
  | none => Ans.no
noncomputable def E20 (L N : Nat) : Env := { P := Try.prog, ty := tyOf, Φ := (Φ63 L N), inl := inlT, live := lives, liveX := livesX, L := L, dp := none, prom := promT, heal := healT, ren := renT }
noncomputable def f20.c0 : Code := loopAt 0 (codeOf Try.f20)
theorem f20.s0_eq {R : Type} (L N : Nat) (κ : Ex → T → H → Option R) (rec : T → H → Option R) (s14 : LB) (s15 : Int) (s16 : Int) (s17 : LI) :
    evRd (E20 L N) (evCallI (E20 L N) 1 2000) 1000 20 34 0 f20.c0 κ rec (f20.T0 s14 s15 s16 s17) (f20.H0 s14 s15 s16 s17)
    = f20.s0 L N (fun z18 => κ (.exit 0) (f20.T0_e0 z18) (f20.H0_e0 z18)) (fun s14 s15 s16 s17 => rec (f20.T0 s14 s15 s16 s17) (f20.H0 s14 s15 s16 s17)) s14 s15 s16 s17 := by kernel_rfl
theorem f20.l0_eq {R : Type} (L N : Nat) (κ : Ex → T → H → Option R) : ∀ (n : Nat) (s14 : LB) (s15 : Int) (s16 : Int) (s17 : LI),
    evLp (E20 L N) (evCallI (E20 L N) 1 2000) 1000 20 34 0 f20.c0 κ n (f20.T0 s14 s15 s16 s17) (f20.H0 s14 s15 s16 s17)
    = f20.l0 L N (fun z18 => κ (.exit 0) (f20.T0_e0 z18) (f20.H0_e0 z18)) n s14 s15 s16 s17 := by
  intro n
  induction n with
  | zero => intros; rfl
  | succ n ih =>
    intro s14 s15 s16 s17
    rw [evLp_succ, f20.s0_eq]
    simp only [ih]
    rfl
theorem f20.p0_e0_eq {R : Type} (L N : Nat) (κ : RN.Den .row → List Int → Option R) (z18 : LI) :
    (contAt (E20 L N) (evCallI (E20 L N) 1 2000) 1000 20 34 0 (codeOf Try.f20) (finK (E20 L N) 1000 Try.f20 (finN .row none 3 i64 κ))) (.exit 0) (f20.T0_e0 z18) (f20.H0_e0 z18)
    = f20.p0_e0 L N (fun a0 => κ () a0) z18 := by kernel_rfl
theorem f20.b_eq {R : Type} (L N : Nat) (κ : RN.Den .row → List Int → Option R) (x0 : Graph) (x1 : Tree) :
    evBody (E20 L N) (evCallI (E20 L N) 1 2000) 1000 20 Try.f20 [(.tv (.st 2) x0), (.tv (.st 1) x1)] [] [] (finN .row none 3 i64 κ)
    = f20.b L N (fun a0 => κ () a0) x0 x1 := by
  refine Eq.trans (b := f20.b' L N (fun a0 => κ () a0) (fun s14 s15 s16 s17 => evLp (E20 L N) (evCallI (E20 L N) 1 2000) 1000 20 34 0 f20.c0 (contAt (E20 L N) (evCallI (E20 L N) 1 2000) 1000 20 34 0 (codeOf Try.f20) (finK (E20 L N) 1000 Try.f20 (finN .row none 3 i64 κ))) L (f20.T0 s14 s15 s16 s17) (f20.H0 s14 s15 s16 s17)) x0 x1) (by kernel_rfl) ?_
  unfold f20.b
  simp only [f20.l0_eq, f20.p0_e0_eq]
theorem f20.ok (L N : Nat) (hΦ : TellsOk Try.prog ((Φ63 L N))) : EntOk Try.prog 20 (f20.ent L N) := by
  intro args vw site h
  unfold f20.ent
  split
  · rename_i d ha
    intro y hy hs
    refine call_ron (y := y) (dep := 1000) (E := (E20 L N)) (ts := [(.st 2), (.st 1)]) (rn := .row) (q := none) (el := 3) (ty := i64) (d1 := ()) (xs := y) (κ := (fun d xs => some xs)) (sound_of hΦ) okP (callI_sound (sound_of hΦ) okP 1 2000) (f := Try.f20) rfl hs ha ?_ (fun _ _ h => by obtain rfl := Option.some.inj h; exact ⟨rfl, rfl⟩) rfl site
    exact (f20.b_eq L N (fun d xs => some xs) d.1 d.2.1).trans (Eq.trans (b := f20.b L N some d.1 d.2.1) (by kernel_rfl) hy)
  · intro y hy
    cases hy
def Φ20 (L N : Nat) : Tells := (addT (Φ63 L N) 20 (f20.ent L N))
theorem Φ20_ok (L N : Nat) : TellsOk Try.prog (Φ20 L N) := addT_ok (Φ63_ok L N) (f20.ok L N (Φ63_ok L N))
def f31.s0' {R : Type} (L N : Nat) (k0_e0 : Option R) (k0_r : Bool → Option R) (rec0 : LI → LI → Int → Option R) (s0 : LI) (s1 : LI) (s2 : Int) : Option R :=
  bif (decide (s2 < (s0.length : Int))) then
    bif (decide (0 ≤ s2) && decide (s2 < (s0.length : Int))) then
      bif (decide (0 ≤ s2) && decide (s2 < (s1.length : Int))) then
        bif ((listAt s0 (0 : Int) s2.toNat) != (listAt s1 (0 : Int) s2.toNat)) then
          k0_r false
        else rec0 s0 s1 (wi (s2 + (1 : Int)))
      else none
    else none
  else k0_e0
def f31.s0 {R : Type} (L N : Nat) (k0_e0 : Option R) (k0_r : Bool → Option R) (rec0 : LI → LI → Int → Option R) (s0 : LI) (s1 : LI) (s2 : Int) : Option R :=
  f31.s0' L N k0_e0 k0_r rec0 s0 s1 s2
def f31.l0 {R : Type} (L N : Nat) (k0_e0 : Option R) (k0_r : Bool → Option R) : Nat → LI → LI → Int → Option R
  | 0, _, _, _ => none
  | n + 1, s0, s1, s2 => f31.s0 L N k0_e0 k0_r (f31.l0 L N k0_e0 k0_r n) s0 s1 s2
def f31.T0 (s0 : LI) (s1 : LI) (s2 : Int) : T := mkT 26 [(0, (.tv (.sl i64) s0)), (1, (.tv (.sl i64) s1)), (5, (.tv i64 s2))]
def f31.H0 (s0 : LI) (s1 : LI) (s2 : Int) : H := []
def f31.T0_e0 : T := mkT 26 []
def f31.H0_e0 : H := []
def f31.T0_r (z3 : Bool) : T := mkT 26 [(4, (.tv .bool z3))]
def f31.H0_r (z3 : Bool) : H := []
def f31.p0_e0' {R : Type} (L N : Nat) (k : Bool → Option R) : Option R :=
  k true
def f31.p0_e0 {R : Type} (L N : Nat) (k : Bool → Option R) : Option R :=
  f31.p0_e0' L N k
def f31.p0_r' {R : Type} (L N : Nat) (k : Bool → Option R) (z3 : Bool) : Option R :=
  k z3
def f31.p0_r {R : Type} (L N : Nat) (k : Bool → Option R) (z3 : Bool) : Option R :=
  f31.p0_r' L N k z3
def f31.b' {R : Type} (L N : Nat) (k : Bool → Option R) (w0 : LI → LI → Int → Option R) (x0 : LI) (x1 : LI) : Option R :=
  bif ((x0.length : Int) != (x1.length : Int)) then
    k false
  else w0 x0 x1 (0 : Int)
def f31.b {R : Type} (L N : Nat) (k : Bool → Option R) (x0 : LI) (x1 : LI) : Option R :=
  f31.b' L N k (fun s0 s1 s2 => f31.l0 L N (f31.p0_e0 L N k) (fun z3 => f31.p0_r L N k z3) L s0 s1 s2) x0 x1
def f31 (L N : Nat) (x0 : LI) (x1 : LI) : Option (Bool) := f31.b L N some x0 x1
def f31.ent (L N : Nat) (args : List AV) (vw : View) (site : Nat) : Ans := match roD [(.sl i64), (.sl i64)] vw args with
  | some d => ⟨Bool, f31 L N d.1 d.2.1, fun y => ((.tv .bool y), [], [])⟩
  | none => Ans.no
noncomputable def E31 (L N : Nat) : Env := { P := Try.prog, ty := tyOf, Φ := (Φ20 L N), inl := inlT, live := lives, liveX := livesX, L := L, dp := none, prom := promT, heal := healT, ren := renT }
noncomputable def f31.c0 : Code := loopAt 0 (codeOf Try.f31)
theorem f31.s0_eq {R : Type} (L N : Nat) (κ : Ex → T → H → Option R) (rec : T → H → Option R) (s0 : LI) (s1 : LI) (s2 : Int) :
    evRd (E31 L N) (evCallI (E31 L N) 1 2000) 1000 31 26 0 f31.c0 κ rec (f31.T0 s0 s1 s2) (f31.H0 s0 s1 s2)
    = f31.s0 L N (κ (.exit 0) f31.T0_e0 f31.H0_e0) (fun z3 => κ .ret (f31.T0_r z3) (f31.H0_r z3)) (fun s0 s1 s2 => rec (f31.T0 s0 s1 s2) (f31.H0 s0 s1 s2)) s0 s1 s2 := by kernel_rfl
theorem f31.l0_eq {R : Type} (L N : Nat) (κ : Ex → T → H → Option R) : ∀ (n : Nat) (s0 : LI) (s1 : LI) (s2 : Int),
    evLp (E31 L N) (evCallI (E31 L N) 1 2000) 1000 31 26 0 f31.c0 κ n (f31.T0 s0 s1 s2) (f31.H0 s0 s1 s2)
    = f31.l0 L N (κ (.exit 0) f31.T0_e0 f31.H0_e0) (fun z3 => κ .ret (f31.T0_r z3) (f31.H0_r z3)) n s0 s1 s2 := by
  intro n
  induction n with
  | zero => intros; rfl
  | succ n ih =>
    intro s0 s1 s2
    rw [evLp_succ, f31.s0_eq]
    simp only [ih]
    rfl
theorem f31.p0_e0_eq {R : Type} (L N : Nat) (κ : AV → Option R) :
    (contAt (E31 L N) (evCallI (E31 L N) 1 2000) 1000 31 26 0 (codeOf Try.f31) (finK (E31 L N) 1000 Try.f31 (finC (.one .bool) κ))) (.exit 0) f31.T0_e0 f31.H0_e0
    = f31.p0_e0 L N (fun a0 => κ (.tv .bool a0)) := by kernel_rfl
theorem f31.p0_r_eq {R : Type} (L N : Nat) (κ : AV → Option R) (z3 : Bool) :
    (contAt (E31 L N) (evCallI (E31 L N) 1 2000) 1000 31 26 0 (codeOf Try.f31) (finK (E31 L N) 1000 Try.f31 (finC (.one .bool) κ))) .ret (f31.T0_r z3) (f31.H0_r z3)
    = f31.p0_r L N (fun a0 => κ (.tv .bool a0)) z3 := by kernel_rfl
theorem f31.b_eq {R : Type} (L N : Nat) (κ : AV → Option R) (x0 : LI) (x1 : LI) :
    evBody (E31 L N) (evCallI (E31 L N) 1 2000) 1000 31 Try.f31 [(.tv (.sl i64) x0), (.tv (.sl i64) x1)] [] [] (finC (.one .bool) κ)
    = f31.b L N (fun a0 => κ (.tv .bool a0)) x0 x1 := by
  refine Eq.trans (b := f31.b' L N (fun a0 => κ (.tv .bool a0)) (fun s0 s1 s2 => evLp (E31 L N) (evCallI (E31 L N) 1 2000) 1000 31 26 0 f31.c0 (contAt (E31 L N) (evCallI (E31 L N) 1 2000) 1000 31 26 0 (codeOf Try.f31) (finK (E31 L N) 1000 Try.f31 (finC (.one .bool) κ))) L (f31.T0 s0 s1 s2) (f31.H0 s0 s1 s2)) x0 x1) (by kernel_rfl) ?_
  unfold f31.b
  simp only [f31.l0_eq, f31.p0_e0_eq, f31.p0_r_eq]
theorem f31.ok (L N : Nat) (hΦ : TellsOk Try.prog ((Φ20 L N))) : EntOk Try.prog 31 (f31.ent L N) := by
  intro args vw site h
  unfold f31.ent
  split
  · rename_i d ha
    intro y hy hs
    refine call_ro (dep := 1000) (E := (E31 L N)) (rs := (.one .bool)) (κ := unR (.one .bool)) (sound_of hΦ) okP (callI_sound (sound_of hΦ) okP 1 2000) (f := Try.f31) rfl hs ha ?_ (fun _ h => unR_some h) rfl site
    exact (f31.b_eq L N (unR (.one .bool)) d.1 d.2.1).trans (Eq.trans (b := f31.b L N some d.1 d.2.1) (by kernel_rfl) hy)
  · intro y hy
    cases hy
def Φ31 (L N : Nat) : Tells := (addT (Φ20 L N) 31 (f31.ent L N))
theorem Φ31_ok (L N : Nat) : TellsOk Try.prog (Φ31 L N) := addT_ok (Φ20_ok L N) (f31.ok L N (Φ20_ok L N))
def f33.s0' {R : Type} (L N : Nat) (k0_e0 : Option R) (k0_r : Bool → Option R) (rec0 : LI → Int → Int → Option R) (s0 : LI) (s1 : Int) (s2 : Int) : Option R :=
  bif (decide (s2 < (s0.length : Int))) then
    bif (decide (0 ≤ s2) && decide (s2 < (s0.length : Int))) then
      bif ((listAt s0 (0 : Int) s2.toNat) == s1) then
        k0_r true
      else rec0 s0 s1 (wi (s2 + (1 : Int)))
    else none
  else k0_e0
def f33.s0 {R : Type} (L N : Nat) (k0_e0 : Option R) (k0_r : Bool → Option R) (rec0 : LI → Int → Int → Option R) (s0 : LI) (s1 : Int) (s2 : Int) : Option R :=
  f33.s0' L N k0_e0 k0_r rec0 s0 s1 s2
def f33.l0 {R : Type} (L N : Nat) (k0_e0 : Option R) (k0_r : Bool → Option R) : Nat → LI → Int → Int → Option R
  | 0, _, _, _ => none
  | n + 1, s0, s1, s2 => f33.s0 L N k0_e0 k0_r (f33.l0 L N k0_e0 k0_r n) s0 s1 s2
def f33.T0 (s0 : LI) (s1 : Int) (s2 : Int) : T := mkT 18 [(0, (.tv (.sl i64) s0)), (1, (.tv i64 s1)), (5, (.tv i64 s2))]
def f33.H0 (s0 : LI) (s1 : Int) (s2 : Int) : H := []
def f33.T0_e0 : T := mkT 18 []
def f33.H0_e0 : H := []
def f33.T0_r (z3 : Bool) : T := mkT 18 [(4, (.tv .bool z3))]
def f33.H0_r (z3 : Bool) : H := []
def f33.p0_e0' {R : Type} (L N : Nat) (k : Bool → Option R) : Option R :=
  k false
def f33.p0_e0 {R : Type} (L N : Nat) (k : Bool → Option R) : Option R :=
  f33.p0_e0' L N k
def f33.p0_r' {R : Type} (L N : Nat) (k : Bool → Option R) (z3 : Bool) : Option R :=
  k z3
def f33.p0_r {R : Type} (L N : Nat) (k : Bool → Option R) (z3 : Bool) : Option R :=
  f33.p0_r' L N k z3
def f33.b' {R : Type} (L N : Nat) (k : Bool → Option R) (w0 : LI → Int → Int → Option R) (x0 : LI) (x1 : Int) : Option R :=
  w0 x0 x1 (0 : Int)
def f33.b {R : Type} (L N : Nat) (k : Bool → Option R) (x0 : LI) (x1 : Int) : Option R :=
  f33.b' L N k (fun s0 s1 s2 => f33.l0 L N (f33.p0_e0 L N k) (fun z3 => f33.p0_r L N k z3) L s0 s1 s2) x0 x1
def f33 (L N : Nat) (x0 : LI) (x1 : Int) : Option (Bool) := f33.b L N some x0 x1
def f33.ent (L N : Nat) (args : List AV) (vw : View) (site : Nat) : Ans := match roD [(.sl i64), i64] vw args with
  | some d => ⟨Bool, f33 L N d.1 d.2.1, fun y => ((.tv .bool y), [], [])⟩
  | none => Ans.no
noncomputable def E33 (L N : Nat) : Env := { P := Try.prog, ty := tyOf, Φ := (Φ31 L N), inl := inlT, live := lives, liveX := livesX, L := L, dp := none, prom := promT, heal := healT, ren := renT }
noncomputable def f33.c0 : Code := loopAt 0 (codeOf Try.f33)
theorem f33.s0_eq {R : Type} (L N : Nat) (κ : Ex → T → H → Option R) (rec : T → H → Option R) (s0 : LI) (s1 : Int) (s2 : Int) :
    evRd (E33 L N) (evCallI (E33 L N) 1 2000) 1000 33 18 0 f33.c0 κ rec (f33.T0 s0 s1 s2) (f33.H0 s0 s1 s2)
    = f33.s0 L N (κ (.exit 0) f33.T0_e0 f33.H0_e0) (fun z3 => κ .ret (f33.T0_r z3) (f33.H0_r z3)) (fun s0 s1 s2 => rec (f33.T0 s0 s1 s2) (f33.H0 s0 s1 s2)) s0 s1 s2 := by kernel_rfl
theorem f33.l0_eq {R : Type} (L N : Nat) (κ : Ex → T → H → Option R) : ∀ (n : Nat) (s0 : LI) (s1 : Int) (s2 : Int),
    evLp (E33 L N) (evCallI (E33 L N) 1 2000) 1000 33 18 0 f33.c0 κ n (f33.T0 s0 s1 s2) (f33.H0 s0 s1 s2)
    = f33.l0 L N (κ (.exit 0) f33.T0_e0 f33.H0_e0) (fun z3 => κ .ret (f33.T0_r z3) (f33.H0_r z3)) n s0 s1 s2 := by
  intro n
  induction n with
  | zero => intros; rfl
  | succ n ih =>
    intro s0 s1 s2
    rw [evLp_succ, f33.s0_eq]
    simp only [ih]
    rfl
theorem f33.p0_e0_eq {R : Type} (L N : Nat) (κ : AV → Option R) :
    (contAt (E33 L N) (evCallI (E33 L N) 1 2000) 1000 33 18 0 (codeOf Try.f33) (finK (E33 L N) 1000 Try.f33 (finC (.one .bool) κ))) (.exit 0) f33.T0_e0 f33.H0_e0
    = f33.p0_e0 L N (fun a0 => κ (.tv .bool a0)) := by kernel_rfl
theorem f33.p0_r_eq {R : Type} (L N : Nat) (κ : AV → Option R) (z3 : Bool) :
    (contAt (E33 L N) (evCallI (E33 L N) 1 2000) 1000 33 18 0 (codeOf Try.f33) (finK (E33 L N) 1000 Try.f33 (finC (.one .bool) κ))) .ret (f33.T0_r z3) (f33.H0_r z3)
    = f33.p0_r L N (fun a0 => κ (.tv .bool a0)) z3 := by kernel_rfl
theorem f33.b_eq {R : Type} (L N : Nat) (κ : AV → Option R) (x0 : LI) (x1 : Int) :
    evBody (E33 L N) (evCallI (E33 L N) 1 2000) 1000 33 Try.f33 [(.tv (.sl i64) x0), (.tv i64 x1)] [] [] (finC (.one .bool) κ)
    = f33.b L N (fun a0 => κ (.tv .bool a0)) x0 x1 := by
  refine Eq.trans (b := f33.b' L N (fun a0 => κ (.tv .bool a0)) (fun s0 s1 s2 => evLp (E33 L N) (evCallI (E33 L N) 1 2000) 1000 33 18 0 f33.c0 (contAt (E33 L N) (evCallI (E33 L N) 1 2000) 1000 33 18 0 (codeOf Try.f33) (finK (E33 L N) 1000 Try.f33 (finC (.one .bool) κ))) L (f33.T0 s0 s1 s2) (f33.H0 s0 s1 s2)) x0 x1) (by kernel_rfl) ?_
  unfold f33.b
  simp only [f33.l0_eq, f33.p0_e0_eq, f33.p0_r_eq]
theorem f33.ok (L N : Nat) (hΦ : TellsOk Try.prog ((Φ31 L N))) : EntOk Try.prog 33 (f33.ent L N) := by
  intro args vw site h
  unfold f33.ent
  split
  · rename_i d ha
    intro y hy hs
    refine call_ro (dep := 1000) (E := (E33 L N)) (rs := (.one .bool)) (κ := unR (.one .bool)) (sound_of hΦ) okP (callI_sound (sound_of hΦ) okP 1 2000) (f := Try.f33) rfl hs ha ?_ (fun _ h => unR_some h) rfl site
    exact (f33.b_eq L N (unR (.one .bool)) d.1 d.2.1).trans (Eq.trans (b := f33.b L N some d.1 d.2.1) (by kernel_rfl) hy)
  · intro y hy
    cases hy
def Φ33 (L N : Nat) : Tells := (addT (Φ31 L N) 33 (f33.ent L N))
theorem Φ33_ok (L N : Nat) : TellsOk Try.prog (Φ33 L N) := addT_ok (Φ31_ok L N) (f33.ok L N (Φ31_ok L N))
def f34.s0' {R : Type} (L N : Nat) (k0_e0 : Option R) (k0_r : Bool → Option R) (rec0 : LI → Int → Option R) (s0 : LI) (s1 : Int) : Option R :=
  bif (decide (s1 < (s0.length : Int))) then
    bif (decide (0 ≤ (wi (s1 - (1 : Int)))) && decide ((wi (s1 - (1 : Int))) < (s0.length : Int))) then
      bif (decide (0 ≤ s1) && decide (s1 < (s0.length : Int))) then
        bif (decide ((listAt s0 (0 : Int) (wi (s1 - (1 : Int))).toNat) ≥ (listAt s0 (0 : Int) s1.toNat))) then
          k0_r false
        else rec0 s0 (wi (s1 + (1 : Int)))
      else none
    else none
  else k0_e0
def f34.s0 {R : Type} (L N : Nat) (k0_e0 : Option R) (k0_r : Bool → Option R) (rec0 : LI → Int → Option R) (s0 : LI) (s1 : Int) : Option R :=
  f34.s0' L N k0_e0 k0_r rec0 s0 s1
def f34.l0 {R : Type} (L N : Nat) (k0_e0 : Option R) (k0_r : Bool → Option R) : Nat → LI → Int → Option R
  | 0, _, _ => none
  | n + 1, s0, s1 => f34.s0 L N k0_e0 k0_r (f34.l0 L N k0_e0 k0_r n) s0 s1
def f34.T0 (s0 : LI) (s1 : Int) : T := mkT 20 [(0, (.tv (.sl i64) s0)), (3, (.tv i64 s1))]
def f34.H0 (s0 : LI) (s1 : Int) : H := []
def f34.T0_e0 : T := mkT 20 []
def f34.H0_e0 : H := []
def f34.T0_r (z2 : Bool) : T := mkT 20 [(2, (.tv .bool z2))]
def f34.H0_r (z2 : Bool) : H := []
def f34.p0_e0' {R : Type} (L N : Nat) (k : Bool → Option R) : Option R :=
  k true
def f34.p0_e0 {R : Type} (L N : Nat) (k : Bool → Option R) : Option R :=
  f34.p0_e0' L N k
def f34.p0_r' {R : Type} (L N : Nat) (k : Bool → Option R) (z2 : Bool) : Option R :=
  k z2
def f34.p0_r {R : Type} (L N : Nat) (k : Bool → Option R) (z2 : Bool) : Option R :=
  f34.p0_r' L N k z2
def f34.b' {R : Type} (L N : Nat) (k : Bool → Option R) (w0 : LI → Int → Option R) (x0 : LI) : Option R :=
  w0 x0 (1 : Int)
def f34.b {R : Type} (L N : Nat) (k : Bool → Option R) (x0 : LI) : Option R :=
  f34.b' L N k (fun s0 s1 => f34.l0 L N (f34.p0_e0 L N k) (fun z2 => f34.p0_r L N k z2) L s0 s1) x0
def f34 (L N : Nat) (x0 : LI) : Option (Bool) := f34.b L N some x0
def f34.ent (L N : Nat) (args : List AV) (vw : View) (site : Nat) : Ans := match roD [(.sl i64)] vw args with
  | some d => ⟨Bool, f34 L N d.1, fun y => ((.tv .bool y), [], [])⟩
  | none => Ans.no
noncomputable def E34 (L N : Nat) : Env := { P := Try.prog, ty := tyOf, Φ := (Φ33 L N), inl := inlT, live := lives, liveX := livesX, L := L, dp := none, prom := promT, heal := healT, ren := renT }
noncomputable def f34.c0 : Code := loopAt 0 (codeOf Try.f34)
theorem f34.s0_eq {R : Type} (L N : Nat) (κ : Ex → T → H → Option R) (rec : T → H → Option R) (s0 : LI) (s1 : Int) :
    evRd (E34 L N) (evCallI (E34 L N) 1 2000) 1000 34 20 0 f34.c0 κ rec (f34.T0 s0 s1) (f34.H0 s0 s1)
    = f34.s0 L N (κ (.exit 0) f34.T0_e0 f34.H0_e0) (fun z2 => κ .ret (f34.T0_r z2) (f34.H0_r z2)) (fun s0 s1 => rec (f34.T0 s0 s1) (f34.H0 s0 s1)) s0 s1 := by kernel_rfl
theorem f34.l0_eq {R : Type} (L N : Nat) (κ : Ex → T → H → Option R) : ∀ (n : Nat) (s0 : LI) (s1 : Int),
    evLp (E34 L N) (evCallI (E34 L N) 1 2000) 1000 34 20 0 f34.c0 κ n (f34.T0 s0 s1) (f34.H0 s0 s1)
    = f34.l0 L N (κ (.exit 0) f34.T0_e0 f34.H0_e0) (fun z2 => κ .ret (f34.T0_r z2) (f34.H0_r z2)) n s0 s1 := by
  intro n
  induction n with
  | zero => intros; rfl
  | succ n ih =>
    intro s0 s1
    rw [evLp_succ, f34.s0_eq]
    simp only [ih]
    rfl
theorem f34.p0_e0_eq {R : Type} (L N : Nat) (κ : AV → Option R) :
    (contAt (E34 L N) (evCallI (E34 L N) 1 2000) 1000 34 20 0 (codeOf Try.f34) (finK (E34 L N) 1000 Try.f34 (finC (.one .bool) κ))) (.exit 0) f34.T0_e0 f34.H0_e0
    = f34.p0_e0 L N (fun a0 => κ (.tv .bool a0)) := by kernel_rfl
theorem f34.p0_r_eq {R : Type} (L N : Nat) (κ : AV → Option R) (z2 : Bool) :
    (contAt (E34 L N) (evCallI (E34 L N) 1 2000) 1000 34 20 0 (codeOf Try.f34) (finK (E34 L N) 1000 Try.f34 (finC (.one .bool) κ))) .ret (f34.T0_r z2) (f34.H0_r z2)
    = f34.p0_r L N (fun a0 => κ (.tv .bool a0)) z2 := by kernel_rfl
theorem f34.b_eq {R : Type} (L N : Nat) (κ : AV → Option R) (x0 : LI) :
    evBody (E34 L N) (evCallI (E34 L N) 1 2000) 1000 34 Try.f34 [(.tv (.sl i64) x0)] [] [] (finC (.one .bool) κ)
    = f34.b L N (fun a0 => κ (.tv .bool a0)) x0 := by
  refine Eq.trans (b := f34.b' L N (fun a0 => κ (.tv .bool a0)) (fun s0 s1 => evLp (E34 L N) (evCallI (E34 L N) 1 2000) 1000 34 20 0 f34.c0 (contAt (E34 L N) (evCallI (E34 L N) 1 2000) 1000 34 20 0 (codeOf Try.f34) (finK (E34 L N) 1000 Try.f34 (finC (.one .bool) κ))) L (f34.T0 s0 s1) (f34.H0 s0 s1)) x0) (by kernel_rfl) ?_
  unfold f34.b
  simp only [f34.l0_eq, f34.p0_e0_eq, f34.p0_r_eq]
theorem f34.ok (L N : Nat) (hΦ : TellsOk Try.prog ((Φ33 L N))) : EntOk Try.prog 34 (f34.ent L N) := by
  intro args vw site h
  unfold f34.ent
  split
  · rename_i d ha
    intro y hy hs
    refine call_ro (dep := 1000) (E := (E34 L N)) (rs := (.one .bool)) (κ := unR (.one .bool)) (sound_of hΦ) okP (callI_sound (sound_of hΦ) okP 1 2000) (f := Try.f34) rfl hs ha ?_ (fun _ h => unR_some h) rfl site
    exact (f34.b_eq L N (unR (.one .bool)) d.1).trans (Eq.trans (b := f34.b L N some d.1) (by kernel_rfl) hy)
  · intro y hy
    cases hy
def Φ34 (L N : Nat) : Tells := (addT (Φ33 L N) 34 (f34.ent L N))
theorem Φ34_ok (L N : Nat) : TellsOk Try.prog (Φ34 L N) := addT_ok (Φ33_ok L N) (f34.ok L N (Φ33_ok L N))
def f119.s0' {R : Type} (L N : Nat) (k0_e0 : Option R) (k0_r : Bool → Option R) (rec0 : LI → LI → Int → Int → Option R) (s0 : LI) (s1 : LI) (s2 : Int) (s3 : Int) : Option R :=
  bif (decide (s3 < s2)) then
    bif (decide (0 ≤ s3) && decide (s3 < (s0.length : Int))) then
      bif (decide (0 ≤ s3) && decide (s3 < (s1.length : Int))) then
        bif ((listAt s0 (0 : Int) s3.toNat) != (listAt s1 (0 : Int) s3.toNat)) then
          k0_r false
        else rec0 s0 s1 s2 (wi (s3 + (1 : Int)))
      else none
    else none
  else k0_e0
def f119.s0 {R : Type} (L N : Nat) (k0_e0 : Option R) (k0_r : Bool → Option R) (rec0 : LI → LI → Int → Int → Option R) (s0 : LI) (s1 : LI) (s2 : Int) (s3 : Int) : Option R :=
  f119.s0' L N k0_e0 k0_r rec0 s0 s1 s2 s3
def f119.l0 {R : Type} (L N : Nat) (k0_e0 : Option R) (k0_r : Bool → Option R) : Nat → LI → LI → Int → Int → Option R
  | 0, _, _, _, _ => none
  | n + 1, s0, s1, s2, s3 => f119.s0 L N k0_e0 k0_r (f119.l0 L N k0_e0 k0_r n) s0 s1 s2 s3
def f119.T0 (s0 : LI) (s1 : LI) (s2 : Int) (s3 : Int) : T := mkT 26 [(0, (.tv (.sl i64) s0)), (1, (.tv (.sl i64) s1)), (12, (.tv i64 s2)), (13, (.tv i64 s3))]
def f119.H0 (s0 : LI) (s1 : LI) (s2 : Int) (s3 : Int) : H := []
def f119.T0_e0 : T := mkT 26 []
def f119.H0_e0 : H := []
def f119.T0_r (z4 : Bool) : T := mkT 26 [(4, (.tv .bool z4))]
def f119.H0_r (z4 : Bool) : H := []
def f119.p0_e0' {R : Type} (L N : Nat) (k : Bool → Option R) : Option R :=
  k true
def f119.p0_e0 {R : Type} (L N : Nat) (k : Bool → Option R) : Option R :=
  f119.p0_e0' L N k
def f119.p0_r' {R : Type} (L N : Nat) (k : Bool → Option R) (z4 : Bool) : Option R :=
  k z4
def f119.p0_r {R : Type} (L N : Nat) (k : Bool → Option R) (z4 : Bool) : Option R :=
  f119.p0_r' L N k z4
def f119.b' {R : Type} (L N : Nat) (k : Bool → Option R) (w0 : LI → LI → Int → Int → Option R) (x0 : LI) (x1 : LI) : Option R :=
  bif ((x0.length : Int) != (x1.length : Int)) then
    k false
  else w0 x0 x1 (x0.length : Int) (0 : Int)
def f119.b {R : Type} (L N : Nat) (k : Bool → Option R) (x0 : LI) (x1 : LI) : Option R :=
  f119.b' L N k (fun s0 s1 s2 s3 => f119.l0 L N (f119.p0_e0 L N k) (fun z4 => f119.p0_r L N k z4) L s0 s1 s2 s3) x0 x1
def f119 (L N : Nat) (x0 : LI) (x1 : LI) : Option (Bool) := f119.b L N some x0 x1
def f119.ent (L N : Nat) (args : List AV) (vw : View) (site : Nat) : Ans := match roD [(.sl i64), (.sl i64)] vw args with
  | some d => ⟨Bool, f119 L N d.1 d.2.1, fun y => ((.tv .bool y), [], [])⟩
  | none => Ans.no
noncomputable def E119 (L N : Nat) : Env := { P := Try.prog, ty := tyOf, Φ := (Φ34 L N), inl := inlT, live := lives, liveX := livesX, L := L, dp := none, prom := promT, heal := healT, ren := renT }
noncomputable def f119.c0 : Code := loopAt 0 (codeOf Try.f119)
theorem f119.s0_eq {R : Type} (L N : Nat) (κ : Ex → T → H → Option R) (rec : T → H → Option R) (s0 : LI) (s1 : LI) (s2 : Int) (s3 : Int) :
    evRd (E119 L N) (evCallI (E119 L N) 1 2000) 1000 119 26 0 f119.c0 κ rec (f119.T0 s0 s1 s2 s3) (f119.H0 s0 s1 s2 s3)
    = f119.s0 L N (κ (.exit 0) f119.T0_e0 f119.H0_e0) (fun z4 => κ .ret (f119.T0_r z4) (f119.H0_r z4)) (fun s0 s1 s2 s3 => rec (f119.T0 s0 s1 s2 s3) (f119.H0 s0 s1 s2 s3)) s0 s1 s2 s3 := by kernel_rfl
theorem f119.l0_eq {R : Type} (L N : Nat) (κ : Ex → T → H → Option R) : ∀ (n : Nat) (s0 : LI) (s1 : LI) (s2 : Int) (s3 : Int),
    evLp (E119 L N) (evCallI (E119 L N) 1 2000) 1000 119 26 0 f119.c0 κ n (f119.T0 s0 s1 s2 s3) (f119.H0 s0 s1 s2 s3)
    = f119.l0 L N (κ (.exit 0) f119.T0_e0 f119.H0_e0) (fun z4 => κ .ret (f119.T0_r z4) (f119.H0_r z4)) n s0 s1 s2 s3 := by
  intro n
  induction n with
  | zero => intros; rfl
  | succ n ih =>
    intro s0 s1 s2 s3
    rw [evLp_succ, f119.s0_eq]
    simp only [ih]
    rfl
theorem f119.p0_e0_eq {R : Type} (L N : Nat) (κ : AV → Option R) :
    (contAt (E119 L N) (evCallI (E119 L N) 1 2000) 1000 119 26 0 (codeOf Try.f119) (finK (E119 L N) 1000 Try.f119 (finC (.one .bool) κ))) (.exit 0) f119.T0_e0 f119.H0_e0
    = f119.p0_e0 L N (fun a0 => κ (.tv .bool a0)) := by kernel_rfl
theorem f119.p0_r_eq {R : Type} (L N : Nat) (κ : AV → Option R) (z4 : Bool) :
    (contAt (E119 L N) (evCallI (E119 L N) 1 2000) 1000 119 26 0 (codeOf Try.f119) (finK (E119 L N) 1000 Try.f119 (finC (.one .bool) κ))) .ret (f119.T0_r z4) (f119.H0_r z4)
    = f119.p0_r L N (fun a0 => κ (.tv .bool a0)) z4 := by kernel_rfl
theorem f119.b_eq {R : Type} (L N : Nat) (κ : AV → Option R) (x0 : LI) (x1 : LI) :
    evBody (E119 L N) (evCallI (E119 L N) 1 2000) 1000 119 Try.f119 [(.tv (.sl i64) x0), (.tv (.sl i64) x1)] [] [] (finC (.one .bool) κ)
    = f119.b L N (fun a0 => κ (.tv .bool a0)) x0 x1 := by
  refine Eq.trans (b := f119.b' L N (fun a0 => κ (.tv .bool a0)) (fun s0 s1 s2 s3 => evLp (E119 L N) (evCallI (E119 L N) 1 2000) 1000 119 26 0 f119.c0 (contAt (E119 L N) (evCallI (E119 L N) 1 2000) 1000 119 26 0 (codeOf Try.f119) (finK (E119 L N) 1000 Try.f119 (finC (.one .bool) κ))) L (f119.T0 s0 s1 s2 s3) (f119.H0 s0 s1 s2 s3)) x0 x1) (by kernel_rfl) ?_
  unfold f119.b
  simp only [f119.l0_eq, f119.p0_e0_eq, f119.p0_r_eq]
theorem f119.ok (L N : Nat) (hΦ : TellsOk Try.prog ((Φ34 L N))) : EntOk Try.prog 119 (f119.ent L N) := by
  intro args vw site h
  unfold f119.ent
  split
  · rename_i d ha
    intro y hy hs
    refine call_ro (dep := 1000) (E := (E119 L N)) (rs := (.one .bool)) (κ := unR (.one .bool)) (sound_of hΦ) okP (callI_sound (sound_of hΦ) okP 1 2000) (f := Try.f119) rfl hs ha ?_ (fun _ h => unR_some h) rfl site
    exact (f119.b_eq L N (unR (.one .bool)) d.1 d.2.1).trans (Eq.trans (b := f119.b L N some d.1 d.2.1) (by kernel_rfl) hy)
  · intro y hy
    cases hy
def Φ119 (L N : Nat) : Tells := (addT (Φ34 L N) 119 (f119.ent L N))
theorem Φ119_ok (L N : Nat) : TellsOk Try.prog (Φ119 L N) := addT_ok (Φ34_ok L N) (f119.ok L N (Φ34_ok L N))
def f142.s0' {R : Type} (L N : Nat) (k0_e0 : Option R) (k0_r : Bool → Option R) (rec0 : LM → LM → Int → Int → Option R) (s0 : LM) (s1 : LM) (s2 : Int) (s3 : Int) : Option R :=
  bif (decide (s3 < s2)) then
    bif (decide (0 ≤ s3) && decide (s3 < (s0.length : Int))) then
      bif (decide (0 ≤ s3) && decide (s3 < (s1.length : Int))) then
        bif (!(Move.eqb (listAt s0 (Ty.dflt (.st 0)) s3.toNat) (listAt s1 (Ty.dflt (.st 0)) s3.toNat))) then
          k0_r false
        else rec0 s0 s1 s2 (wi (s3 + (1 : Int)))
      else none
    else none
  else k0_e0
def f142.s0 {R : Type} (L N : Nat) (k0_e0 : Option R) (k0_r : Bool → Option R) (rec0 : LM → LM → Int → Int → Option R) (s0 : LM) (s1 : LM) (s2 : Int) (s3 : Int) : Option R :=
  f142.s0' L N k0_e0 k0_r rec0 s0 s1 s2 s3
def f142.l0 {R : Type} (L N : Nat) (k0_e0 : Option R) (k0_r : Bool → Option R) : Nat → LM → LM → Int → Int → Option R
  | 0, _, _, _, _ => none
  | n + 1, s0, s1, s2, s3 => f142.s0 L N k0_e0 k0_r (f142.l0 L N k0_e0 k0_r n) s0 s1 s2 s3
def f142.T0 (s0 : LM) (s1 : LM) (s2 : Int) (s3 : Int) : T := mkT 26 [(0, (.tv (.sl (.st 0)) s0)), (1, (.tv (.sl (.st 0)) s1)), (12, (.tv i64 s2)), (13, (.tv i64 s3))]
def f142.H0 (s0 : LM) (s1 : LM) (s2 : Int) (s3 : Int) : H := []
def f142.T0_e0 : T := mkT 26 []
def f142.H0_e0 : H := []
def f142.T0_r (z4 : Bool) : T := mkT 26 [(4, (.tv .bool z4))]
def f142.H0_r (z4 : Bool) : H := []
def f142.p0_e0' {R : Type} (L N : Nat) (k : Bool → Option R) : Option R :=
  k true
def f142.p0_e0 {R : Type} (L N : Nat) (k : Bool → Option R) : Option R :=
  f142.p0_e0' L N k
def f142.p0_r' {R : Type} (L N : Nat) (k : Bool → Option R) (z4 : Bool) : Option R :=
  k z4
def f142.p0_r {R : Type} (L N : Nat) (k : Bool → Option R) (z4 : Bool) : Option R :=
  f142.p0_r' L N k z4
def f142.b' {R : Type} (L N : Nat) (k : Bool → Option R) (w0 : LM → LM → Int → Int → Option R) (x0 : LM) (x1 : LM) : Option R :=
  bif ((x0.length : Int) != (x1.length : Int)) then
    k false
  else w0 x0 x1 (x0.length : Int) (0 : Int)
def f142.b {R : Type} (L N : Nat) (k : Bool → Option R) (x0 : LM) (x1 : LM) : Option R :=
  f142.b' L N k (fun s0 s1 s2 s3 => f142.l0 L N (f142.p0_e0 L N k) (fun z4 => f142.p0_r L N k z4) L s0 s1 s2 s3) x0 x1
def f142 (L N : Nat) (x0 : LM) (x1 : LM) : Option (Bool) := f142.b L N some x0 x1
def f142.ent (L N : Nat) (args : List AV) (vw : View) (site : Nat) : Ans := match roD [(.sl (.st 0)), (.sl (.st 0))] vw args with
  | some d => ⟨Bool, f142 L N d.1 d.2.1, fun y => ((.tv .bool y), [], [])⟩
  | none => Ans.no
noncomputable def E142 (L N : Nat) : Env := { P := Try.prog, ty := tyOf, Φ := (Φ119 L N), inl := inlT, live := lives, liveX := livesX, L := L, dp := none, prom := promT, heal := healT, ren := renT }
noncomputable def f142.c0 : Code := loopAt 0 (codeOf Try.f142)
theorem f142.s0_eq {R : Type} (L N : Nat) (κ : Ex → T → H → Option R) (rec : T → H → Option R) (s0 : LM) (s1 : LM) (s2 : Int) (s3 : Int) :
    evRd (E142 L N) (evCallI (E142 L N) 1 2000) 1000 142 26 0 f142.c0 κ rec (f142.T0 s0 s1 s2 s3) (f142.H0 s0 s1 s2 s3)
    = f142.s0 L N (κ (.exit 0) f142.T0_e0 f142.H0_e0) (fun z4 => κ .ret (f142.T0_r z4) (f142.H0_r z4)) (fun s0 s1 s2 s3 => rec (f142.T0 s0 s1 s2 s3) (f142.H0 s0 s1 s2 s3)) s0 s1 s2 s3 := by kernel_rfl
theorem f142.l0_eq {R : Type} (L N : Nat) (κ : Ex → T → H → Option R) : ∀ (n : Nat) (s0 : LM) (s1 : LM) (s2 : Int) (s3 : Int),
    evLp (E142 L N) (evCallI (E142 L N) 1 2000) 1000 142 26 0 f142.c0 κ n (f142.T0 s0 s1 s2 s3) (f142.H0 s0 s1 s2 s3)
    = f142.l0 L N (κ (.exit 0) f142.T0_e0 f142.H0_e0) (fun z4 => κ .ret (f142.T0_r z4) (f142.H0_r z4)) n s0 s1 s2 s3 := by
  intro n
  induction n with
  | zero => intros; rfl
  | succ n ih =>
    intro s0 s1 s2 s3
    rw [evLp_succ, f142.s0_eq]
    simp only [ih]
    rfl
theorem f142.p0_e0_eq {R : Type} (L N : Nat) (κ : AV → Option R) :
    (contAt (E142 L N) (evCallI (E142 L N) 1 2000) 1000 142 26 0 (codeOf Try.f142) (finK (E142 L N) 1000 Try.f142 (finC (.one .bool) κ))) (.exit 0) f142.T0_e0 f142.H0_e0
    = f142.p0_e0 L N (fun a0 => κ (.tv .bool a0)) := by kernel_rfl
theorem f142.p0_r_eq {R : Type} (L N : Nat) (κ : AV → Option R) (z4 : Bool) :
    (contAt (E142 L N) (evCallI (E142 L N) 1 2000) 1000 142 26 0 (codeOf Try.f142) (finK (E142 L N) 1000 Try.f142 (finC (.one .bool) κ))) .ret (f142.T0_r z4) (f142.H0_r z4)
    = f142.p0_r L N (fun a0 => κ (.tv .bool a0)) z4 := by kernel_rfl
theorem f142.b_eq {R : Type} (L N : Nat) (κ : AV → Option R) (x0 : LM) (x1 : LM) :
    evBody (E142 L N) (evCallI (E142 L N) 1 2000) 1000 142 Try.f142 [(.tv (.sl (.st 0)) x0), (.tv (.sl (.st 0)) x1)] [] [] (finC (.one .bool) κ)
    = f142.b L N (fun a0 => κ (.tv .bool a0)) x0 x1 := by
  refine Eq.trans (b := f142.b' L N (fun a0 => κ (.tv .bool a0)) (fun s0 s1 s2 s3 => evLp (E142 L N) (evCallI (E142 L N) 1 2000) 1000 142 26 0 f142.c0 (contAt (E142 L N) (evCallI (E142 L N) 1 2000) 1000 142 26 0 (codeOf Try.f142) (finK (E142 L N) 1000 Try.f142 (finC (.one .bool) κ))) L (f142.T0 s0 s1 s2 s3) (f142.H0 s0 s1 s2 s3)) x0 x1) (by kernel_rfl) ?_
  unfold f142.b
  simp only [f142.l0_eq, f142.p0_e0_eq, f142.p0_r_eq]
theorem f142.ok (L N : Nat) (hΦ : TellsOk Try.prog ((Φ119 L N))) : EntOk Try.prog 142 (f142.ent L N) := by
  intro args vw site h
  unfold f142.ent
  split
  · rename_i d ha
    intro y hy hs
    refine call_ro (dep := 1000) (E := (E142 L N)) (rs := (.one .bool)) (κ := unR (.one .bool)) (sound_of hΦ) okP (callI_sound (sound_of hΦ) okP 1 2000) (f := Try.f142) rfl hs ha ?_ (fun _ h => unR_some h) rfl site
    exact (f142.b_eq L N (unR (.one .bool)) d.1 d.2.1).trans (Eq.trans (b := f142.b L N some d.1 d.2.1) (by kernel_rfl) hy)
  · intro y hy
    cases hy
def Φ142 (L N : Nat) : Tells := (addT (Φ119 L N) 142 (f142.ent L N))
theorem Φ142_ok (L N : Nat) : TellsOk Try.prog (Φ142 L N) := addT_ok (Φ119_ok L N) (f142.ok L N (Φ119_ok L N))
def f145_1.s0' {R : Type} (L N : Nat) (k0_e0 : LM → Option R) (rec0 : LI → LM → Int → Int → LM → Option R) (s0 : LI) (s1 : LM) (s2 : Int) (s3 : Int) (s4 : LM) : Option R :=
  bif (decide (s3 < s2)) then
    bif (decide (0 ≤ s3) && decide (s3 < (s1.length : Int))) then
      bif (decide (0 ≤ (listAt s1 (Ty.dflt (.st 0)) s3.toNat).to) && decide ((listAt s1 (Ty.dflt (.st 0)) s3.toNat).to < (s0.length : Int))) then
        bif (decide (s4.length + ([(Move.mk ((listAt s1 (Ty.dflt (.st 0)) s3.toNat).act) (listAt s0 (0 : Int) ((listAt s1 (Ty.dflt (.st 0)) s3.toNat).to).toNat))] : LM).length ≤ lim)) then
          rec0 s0 s1 s2 (wi (s3 + (1 : Int))) (s4 ++ ([(Move.mk ((listAt s1 (Ty.dflt (.st 0)) s3.toNat).act) (listAt s0 (0 : Int) ((listAt s1 (Ty.dflt (.st 0)) s3.toNat).to).toNat))] : LM))
        else none
      else none
    else none
  else k0_e0 s4
def f145_1.s0 {R : Type} (L N : Nat) (k0_e0 : LM → Option R) (rec0 : LI → LM → Int → Int → LM → Option R) (s0 : LI) (s1 : LM) (s2 : Int) (s3 : Int) (s4 : LM) : Option R :=
  f145_1.s0' L N k0_e0 rec0 s0 s1 s2 s3 s4
def f145_1.l0 {R : Type} (L N : Nat) (k0_e0 : LM → Option R) : Nat → LI → LM → Int → Int → LM → Option R
  | 0, _, _, _, _, _ => none
  | n + 1, s0, s1, s2, s3, s4 => f145_1.s0 L N k0_e0 (f145_1.l0 L N k0_e0 n) s0 s1 s2 s3 s4
def f145_1.T0 (s0 : LI) (s1 : LM) (s2 : Int) (s3 : Int) (s4 : LM) : T := mkT 34 [(0, (.tv (.sl i64) s0)), (6, (.row 1009)), (14, (.tv (.sl (.st 0)) s1)), (15, (.tv i64 s2)), (16, (.tv i64 s3))]
def f145_1.H0 (s0 : LI) (s1 : LM) (s2 : Int) (s3 : Int) (s4 : LM) : H := [(1009, (.row 53 (.st 0) s4))]
def f145_1.T0_e0 (z5 : LM) : T := mkT 34 [(6, (.row 1009))]
def f145_1.H0_e0 (z5 : LM) : H := [(1009, (.row 53 (.st 0) z5))]
def f145_1.p0_e0' {R : Type} (L N : Nat) (k : LM → Option R) (z5 : LM) : Option R :=
  ((fsortM z5)).bind fun y6 =>
  k (tidyM z5)
def f145_1.p0_e0 {R : Type} (L N : Nat) (k : LM → Option R) (z5 : LM) : Option R :=
  f145_1.p0_e0' L N k z5
def f145_1.b' {R : Type} (L N : Nat) (k : LM → Option R) (w0 : LI → LM → Int → Int → LM → Option R) (x0 : LI) (x1 : Int) (x2 : LLM) : Option R :=
  bif (decide (0 ≤ x1) && decide (x1 < (x2.length : Int))) then
    w0 x0 (listAt x2 [] x1.toNat) ((listAt x2 [] x1.toNat).length : Int) (0 : Int) ([] : LM)
  else none
def f145_1.b {R : Type} (L N : Nat) (k : LM → Option R) (x0 : LI) (x1 : Int) (x2 : LLM) : Option R :=
  f145_1.b' L N k (fun s0 s1 s2 s3 s4 => f145_1.l0 L N (fun z5 => f145_1.p0_e0 L N k z5) L s0 s1 s2 s3 s4) x0 x1 x2
def f145_1 (L N : Nat) (x0 : LI) (x1 : Int) (x2 : LLM) : Option (LM) := f145_1.b L N some x0 x1 x2
def f145_1.ent (L N : Nat) (args : List AV) (vw : View) (site : Nat) : Option Ans := match shsC [(.dat (.sl i64)), (.dat i64), (.imp (.sl (.sl (.st 0))) 0)] vw args with
  | some (d, u) => some ⟨LM, f145_1 L N d.1 d.2.1 d.2.2.1, fun y => ((.tv (.sl (.st 0)) y), u, [])⟩
  | none => none
noncomputable def E145_1 (L N : Nat) : Env := { P := Try.prog, ty := tyOf, Φ := (Φ142 L N), inl := inlT, live := lives, liveX := livesX, L := L, dp := none, prom := promT, heal := healT, ren := renT }
noncomputable def f145_1.c0 : Code := loopAt 0 (codeOf Try.f145)
theorem f145_1.s0_eq {R : Type} (L N : Nat) (κ : Ex → T → H → Option R) (rec : T → H → Option R) (s0 : LI) (s1 : LM) (s2 : Int) (s3 : Int) (s4 : LM) :
    evRd (E145_1 L N) (evCallI (E145_1 L N) 1 2000) 1000 145 34 0 f145_1.c0 κ rec (f145_1.T0 s0 s1 s2 s3 s4) (f145_1.H0 s0 s1 s2 s3 s4)
    = f145_1.s0 L N (fun z5 => κ (.exit 0) (f145_1.T0_e0 z5) (f145_1.H0_e0 z5)) (fun s0 s1 s2 s3 s4 => rec (f145_1.T0 s0 s1 s2 s3 s4) (f145_1.H0 s0 s1 s2 s3 s4)) s0 s1 s2 s3 s4 := by kernel_rfl
theorem f145_1.l0_eq {R : Type} (L N : Nat) (κ : Ex → T → H → Option R) : ∀ (n : Nat) (s0 : LI) (s1 : LM) (s2 : Int) (s3 : Int) (s4 : LM),
    evLp (E145_1 L N) (evCallI (E145_1 L N) 1 2000) 1000 145 34 0 f145_1.c0 κ n (f145_1.T0 s0 s1 s2 s3 s4) (f145_1.H0 s0 s1 s2 s3 s4)
    = f145_1.l0 L N (fun z5 => κ (.exit 0) (f145_1.T0_e0 z5) (f145_1.H0_e0 z5)) n s0 s1 s2 s3 s4 := by
  intro n
  induction n with
  | zero => intros; rfl
  | succ n ih =>
    intro s0 s1 s2 s3 s4
    rw [evLp_succ, f145_1.s0_eq]
    simp only [ih]
    rfl
theorem f145_1.p0_e0_eq {R : Type} (L N : Nat) (κ : AV → Option R) (z5 : LM) :
    (contAt (E145_1 L N) (evCallI (E145_1 L N) 1 2000) 1000 145 34 0 (codeOf Try.f145) (finK (E145_1 L N) 1000 Try.f145 (finC (.one (.sl (.st 0))) κ))) (.exit 0) (f145_1.T0_e0 z5) (f145_1.H0_e0 z5)
    = f145_1.p0_e0 L N (fun a0 => κ (.tv (.sl (.st 0)) a0)) z5 := by kernel_rfl
theorem f145_1.b_eq {R : Type} (L N : Nat) (κ : AV → Option R) (x0 : LI) (x1 : Int) (x2 : LLM) :
    evBody (E145_1 L N) (evCallI (E145_1 L N) 1 2000) 1000 145 Try.f145 [(.tv (.sl i64) x0), (.tv i64 x1), (.imp (.sl (.sl (.st 0))) x2 0)] [] [] (finC (.one (.sl (.st 0))) κ)
    = f145_1.b L N (fun a0 => κ (.tv (.sl (.st 0)) a0)) x0 x1 x2 := by
  refine Eq.trans (b := f145_1.b' L N (fun a0 => κ (.tv (.sl (.st 0)) a0)) (fun s0 s1 s2 s3 s4 => evLp (E145_1 L N) (evCallI (E145_1 L N) 1 2000) 1000 145 34 0 f145_1.c0 (contAt (E145_1 L N) (evCallI (E145_1 L N) 1 2000) 1000 145 34 0 (codeOf Try.f145) (finK (E145_1 L N) 1000 Try.f145 (finC (.one (.sl (.st 0))) κ))) L (f145_1.T0 s0 s1 s2 s3 s4) (f145_1.H0 s0 s1 s2 s3 s4)) x0 x1 x2) (by kernel_rfl) ?_
  unfold f145_1.b
  simp only [f145_1.l0_eq, f145_1.p0_e0_eq]
theorem f145_1.ok (L N : Nat) (hΦ : TellsOk Try.prog ((Φ142 L N))) : EntOkO Try.prog 145 (f145_1.ent L N) := by
  intro args vw site h a ha
  unfold f145_1.ent at ha
  split at ha
  · rename_i d u hd
    obtain rfl := Option.some.inj ha
    intro y hy hs
    refine call_dof (dep := 1000) (E := (E145_1 L N)) (rs := (.one (.sl (.st 0)))) (κ := unR (.one (.sl (.st 0)))) (sound_of hΦ) okP (callI_sound (sound_of hΦ) okP 1 2000) (f := Try.f145) rfl hs hd ?_ (fun _ h => unR_some h) site
    exact (f145_1.b_eq L N (unR (.one (.sl (.st 0)))) d.1 d.2.1 d.2.2.1).trans (Eq.trans (b := f145_1.b L N some d.1 d.2.1 d.2.2.1) (by kernel_rfl) hy)
  · cases ha
def Φ145_1 (L N : Nat) : Tells := (addO (Φ142 L N) 145 (f145_1.ent L N))
theorem Φ145_1_ok (L N : Nat) : TellsOk Try.prog (Φ145_1 L N) := addO_ok (Φ142_ok L N) (f145_1.ok L N (Φ142_ok L N))
def f118_1.b' {R : Type} (L N : Nat) (k : LM → Option R) (x0 : Int) (x1 : LLM) (x2 : LI) : Option R :=
  (f145_1 L N x2 x0 x1).bind fun y0 =>
  k y0
def f118_1.b {R : Type} (L N : Nat) (k : LM → Option R) (x0 : Int) (x1 : LLM) (x2 : LI) : Option R :=
  f118_1.b' L N k x0 x1 x2
def f118_1 (L N : Nat) (x0 : Int) (x1 : LLM) (x2 : LI) : Option (LM) := f118_1.b L N some x0 x1 x2
def f118_1.ent (L N : Nat) (args : List AV) (vw : View) (site : Nat) : Option Ans := match shsC [(.dat i64), (.pfn 145 [(.imp (.sl (.sl (.st 0))) 0)]), (.imp (.sl i64) 0)] vw args with
  | some (d, u) => some ⟨LM, f118_1 L N d.1 d.2.1.1 d.2.2.1, fun y => ((.tv (.sl (.st 0)) y), u, [])⟩
  | none => none
noncomputable def E118_1 (L N : Nat) : Env := { P := Try.prog, ty := tyOf, Φ := (Φ145_1 L N), inl := inlT, live := lives, liveX := livesX, L := L, dp := none, prom := promT, heal := healT, ren := renT }
theorem f118_1.b_eq {R : Type} (L N : Nat) (κ : AV → Option R) (x0 : Int) (x1 : LLM) (x2 : LI) :
    evBody (E118_1 L N) (evCallI (E118_1 L N) 1 2000) 1000 118 Try.f118 [(.tv i64 x0), (.imf 145 [(.imp (.sl (.sl (.st 0))) x1 0)]), (.imp (.sl i64) x2 0)] [] [] (finC (.one (.sl (.st 0))) κ)
    = f118_1.b L N (fun a0 => κ (.tv (.sl (.st 0)) a0)) x0 x1 x2 := by kernel_rfl
theorem f118_1.ok (L N : Nat) (hΦ : TellsOk Try.prog ((Φ145_1 L N))) : EntOkO Try.prog 118 (f118_1.ent L N) := by
  intro args vw site h a ha
  unfold f118_1.ent at ha
  split at ha
  · rename_i d u hd
    obtain rfl := Option.some.inj ha
    intro y hy hs
    refine call_dof (dep := 1000) (E := (E118_1 L N)) (rs := (.one (.sl (.st 0)))) (κ := unR (.one (.sl (.st 0)))) (sound_of hΦ) okP (callI_sound (sound_of hΦ) okP 1 2000) (f := Try.f118) rfl hs hd ?_ (fun _ h => unR_some h) site
    exact (f118_1.b_eq L N (unR (.one (.sl (.st 0)))) d.1 d.2.1.1 d.2.2.1).trans (Eq.trans (b := f118_1.b L N some d.1 d.2.1.1 d.2.2.1) (by kernel_rfl) hy)
  · cases ha
def Φ118_1 (L N : Nat) : Tells := (addO (Φ145_1 L N) 118 (f118_1.ent L N))
theorem Φ118_1_ok (L N : Nat) : TellsOk Try.prog (Φ118_1 L N) := addO_ok (Φ145_1_ok L N) (f118_1.ok L N (Φ145_1_ok L N))
def f117_1.j0' {R : Type} (L N : Nat) (k1_e2 : LI → LLM → LI → Int → Int → LI → LLM → Option R) (rec1 : LI → LLM → LI → Int → Int → Int → Int → LI → LLM → Option R) (v26 : LI) (v27 : LLM) (v28 : LI) (v29 : Int) (v30 : Int) (v31 : Int) (v32 : Int) (v33 : Bool) (v34 : LI) (v35 : LLM) : Option R :=
  bif v33 then
    bif (decide (0 ≤ v29) && decide (v29 < (v34.length : Int))) then
      k1_e2 v26 v27 v28 v31 v32 (v34.set v29.toNat v30) v35
    else none
  else rec1 v26 v27 v28 v29 (wi (v30 + (1 : Int))) v31 v32 v34 v35
def f117_1.s1' {R : Type} (L N : Nat) (k1_e2 : LI → LLM → LI → Int → Int → LI → LLM → Option R) (rec1 : LI → LLM → LI → Int → Int → Int → Int → LI → LLM → Option R) (s9 : LI) (s10 : LLM) (s11 : LI) (s12 : Int) (s13 : Int) (s14 : Int) (s15 : Int) (s16 : LI) (s17 : LLM) : Option R :=
  bif (decide (s13 < s12)) then
    bif (decide (0 ≤ s13) && decide (s13 < (s9.length : Int))) then
      bif (decide (0 ≤ s12) && decide (s12 < (s9.length : Int))) then
        bif ((listAt s9 (0 : Int) s13.toNat) == (listAt s9 (0 : Int) s12.toNat)) then
          bif (decide (0 ≤ s13) && decide (s13 < (s17.length : Int))) then
            bif (decide (0 ≤ s12) && decide (s12 < (s17.length : Int))) then
              (f142 L N (listAt s17 [] s13.toNat) (listAt s17 [] s12.toNat)).bind fun y25 =>
              f117_1.j0' L N k1_e2 rec1 s9 s10 s11 s12 s13 s14 s15 y25 s16 s17
            else none
          else none
        else f117_1.j0' L N k1_e2 rec1 s9 s10 s11 s12 s13 s14 s15 false s16 s17
      else none
    else none
  else k1_e2 s9 s10 s11 s14 s15 s16 s17
def f117_1.s1 {R : Type} (L N : Nat) (k1_e2 : LI → LLM → LI → Int → Int → LI → LLM → Option R) (rec1 : LI → LLM → LI → Int → Int → Int → Int → LI → LLM → Option R) (s9 : LI) (s10 : LLM) (s11 : LI) (s12 : Int) (s13 : Int) (s14 : Int) (s15 : Int) (s16 : LI) (s17 : LLM) : Option R :=
  f117_1.s1' L N k1_e2 rec1 s9 s10 s11 s12 s13 s14 s15 s16 s17
def f117_1.l1 {R : Type} (L N : Nat) (k1_e2 : LI → LLM → LI → Int → Int → LI → LLM → Option R) : Nat → LI → LLM → LI → Int → Int → Int → Int → LI → LLM → Option R
  | 0, _, _, _, _, _, _, _, _, _ => none
  | n + 1, s9, s10, s11, s12, s13, s14, s15, s16, s17 => f117_1.s1 L N k1_e2 (f117_1.l1 L N k1_e2 n) s9 s10 s11 s12 s13 s14 s15 s16 s17
def f117_1.T1 (s9 : LI) (s10 : LLM) (s11 : LI) (s12 : Int) (s13 : Int) (s14 : Int) (s15 : Int) (s16 : LI) (s17 : LLM) : T := mkT 61 [(0, (.tv (.sl i64) s9)), (1, (.fn 118 [(.imf 145 [(.imp (.sl (.sl (.st 0))) s10 0)]), (.imp (.sl i64) s11 0)])), (5, (.row 1011)), (6, (.row 1014)), (7, (.tv i64 s12)), (8, (.tv i64 s13)), (16, (.tv i64 s14)), (17, (.tv i64 s15))]
def f117_1.H1 (s9 : LI) (s10 : LLM) (s11 : LI) (s12 : Int) (s13 : Int) (s14 : Int) (s15 : Int) (s16 : LI) (s17 : LLM) : H := [(1011, (.row 3 i64 s16)), (1014, (.row 51 (.sl (.st 0)) s17))]
def f117_1.T1_e2 (z18 : LI) (z19 : LLM) (z20 : LI) (z21 : Int) (z22 : Int) (z23 : LI) (z24 : LLM) : T := mkT 61 [(0, (.tv (.sl i64) z18)), (1, (.fn 118 [(.imf 145 [(.imp (.sl (.sl (.st 0))) z19 0)]), (.imp (.sl i64) z20 0)])), (5, (.row 1011)), (6, (.row 1014)), (16, (.tv i64 z21)), (17, (.tv i64 z22))]
def f117_1.H1_e2 (z18 : LI) (z19 : LLM) (z20 : LI) (z21 : Int) (z22 : Int) (z23 : LI) (z24 : LLM) : H := [(1011, (.row 3 i64 z23)), (1014, (.row 51 (.sl (.st 0)) z24))]
def f117_1.p1_e2' {R : Type} (L N : Nat) (k0_e0 : LI → Option R) (rec0 : LI → LLM → LI → Int → Int → LI → LLM → Option R) (z18 : LI) (z19 : LLM) (z20 : LI) (z21 : Int) (z22 : Int) (z23 : LI) (z24 : LLM) : Option R :=
  rec0 z18 z19 z20 z21 (wi (z22 + (1 : Int))) z23 z24
def f117_1.p1_e2 {R : Type} (L N : Nat) (k0_e0 : LI → Option R) (rec0 : LI → LLM → LI → Int → Int → LI → LLM → Option R) (z18 : LI) (z19 : LLM) (z20 : LI) (z21 : Int) (z22 : Int) (z23 : LI) (z24 : LLM) : Option R :=
  f117_1.p1_e2' L N k0_e0 rec0 z18 z19 z20 z21 z22 z23 z24
def f117_1.s0' {R : Type} (L N : Nat) (k0_e0 : LI → Option R) (rec0 : LI → LLM → LI → Int → Int → LI → LLM → Option R) (w1 : LI → LLM → LI → Int → Int → Int → Int → LI → LLM → Option R) (s0 : LI) (s1 : LLM) (s2 : LI) (s3 : Int) (s4 : Int) (s5 : LI) (s6 : LLM) : Option R :=
  bif (decide (s4 < s3)) then
    (f118_1 L N s4 s1 s2).bind fun y8 =>
    bif (decide (0 ≤ s4) && decide (s4 < (s6.length : Int))) then
      bif (decide (0 ≤ s4) && decide (s4 < (s5.length : Int))) then
        w1 s0 s1 s2 s4 (0 : Int) s3 s4 (s5.set s4.toNat s4) (s6.set s4.toNat y8)
      else none
    else none
  else k0_e0 s5
def f117_1.s0 {R : Type} (L N : Nat) (k0_e0 : LI → Option R) (rec0 : LI → LLM → LI → Int → Int → LI → LLM → Option R) (s0 : LI) (s1 : LLM) (s2 : LI) (s3 : Int) (s4 : Int) (s5 : LI) (s6 : LLM) : Option R :=
  f117_1.s0' L N k0_e0 rec0 (fun s9 s10 s11 s12 s13 s14 s15 s16 s17 => f117_1.l1 L N (fun z18 z19 z20 z21 z22 z23 z24 => f117_1.p1_e2 L N k0_e0 rec0 z18 z19 z20 z21 z22 z23 z24) L s9 s10 s11 s12 s13 s14 s15 s16 s17) s0 s1 s2 s3 s4 s5 s6
def f117_1.l0 {R : Type} (L N : Nat) (k0_e0 : LI → Option R) : Nat → LI → LLM → LI → Int → Int → LI → LLM → Option R
  | 0, _, _, _, _, _, _, _ => none
  | n + 1, s0, s1, s2, s3, s4, s5, s6 => f117_1.s0 L N k0_e0 (f117_1.l0 L N k0_e0 n) s0 s1 s2 s3 s4 s5 s6
def f117_1.T0 (s0 : LI) (s1 : LLM) (s2 : LI) (s3 : Int) (s4 : Int) (s5 : LI) (s6 : LLM) : T := mkT 61 [(0, (.tv (.sl i64) s0)), (1, (.fn 118 [(.imf 145 [(.imp (.sl (.sl (.st 0))) s1 0)]), (.imp (.sl i64) s2 0)])), (5, (.row 1011)), (6, (.row 1014)), (16, (.tv i64 s3)), (17, (.tv i64 s4))]
def f117_1.H0 (s0 : LI) (s1 : LLM) (s2 : LI) (s3 : Int) (s4 : Int) (s5 : LI) (s6 : LLM) : H := [(1011, (.row 3 i64 s5)), (1014, (.row 51 (.sl (.st 0)) s6))]
def f117_1.T0_e0 (z7 : LI) : T := mkT 61 [(5, (.row 1011))]
def f117_1.H0_e0 (z7 : LI) : H := [(1011, (.row 3 i64 z7))]
def f117_1.p0_e0' {R : Type} (L N : Nat) (k : LI → Option R) (z7 : LI) : Option R :=
  k z7
def f117_1.p0_e0 {R : Type} (L N : Nat) (k : LI → Option R) (z7 : LI) : Option R :=
  f117_1.p0_e0' L N k z7
def f117_1.b' {R : Type} (L N : Nat) (k : LI → Option R) (w0 : LI → LLM → LI → Int → Int → LI → LLM → Option R) (x0 : LI) (x1 : LLM) (x2 : LI) : Option R :=
  bif (decide (0 ≤ (x0.length : Int)) && decide ((x0.length : Int) ≤ (lim : Int))) then
    bif (decide (0 ≤ (x0.length : Int)) && decide ((x0.length : Int) ≤ (lim : Int))) then
      w0 x0 x1 x2 (x0.length : Int) (0 : Int) (List.replicate (x0.length : Int).toNat (0 : Int)) (List.replicate (x0.length : Int).toNat [])
    else none
  else none
def f117_1.b {R : Type} (L N : Nat) (k : LI → Option R) (x0 : LI) (x1 : LLM) (x2 : LI) : Option R :=
  f117_1.b' L N k (fun s0 s1 s2 s3 s4 s5 s6 => f117_1.l0 L N (fun z7 => f117_1.p0_e0 L N k z7) L s0 s1 s2 s3 s4 s5 s6) x0 x1 x2
def f117_1 (L N : Nat) (x0 : LI) (x1 : LLM) (x2 : LI) : Option (LI) := f117_1.b L N some x0 x1 x2
def f117_1.ent (L N : Nat) (args : List AV) (vw : View) (site : Nat) : Option Ans := match shD [(.dat (.sl i64)), (.fn 118 [(.pfn 145 [(.imp (.sl (.sl (.st 0))) 0)]), (.imp (.sl i64) 0)])] vw args with
  | some d => some ⟨LI, f117_1 L N d.1 d.2.1.1.1 d.2.1.2.1, fun y => (RN.av site .row (), [(site, some (mkO none 3 i64 y))], [])⟩
  | none => none
noncomputable def E117_1 (L N : Nat) : Env := { P := Try.prog, ty := tyOf, Φ := (Φ118_1 L N), inl := inlT, live := lives, liveX := livesX, L := L, dp := none, prom := promT, heal := healT, ren := renT }
noncomputable def f117_1.c0 : Code := loopAt 0 (codeOf Try.f117)
noncomputable def f117_1.c1 : Code := loopAt 2 f117_1.c0
theorem f117_1.s1_eq {R : Type} (L N : Nat) (κ : Ex → T → H → Option R) (rec : T → H → Option R) (s9 : LI) (s10 : LLM) (s11 : LI) (s12 : Int) (s13 : Int) (s14 : Int) (s15 : Int) (s16 : LI) (s17 : LLM) :
    evRd (E117_1 L N) (evCallI (E117_1 L N) 1 2000) 1000 117 61 2 f117_1.c1 κ rec (f117_1.T1 s9 s10 s11 s12 s13 s14 s15 s16 s17) (f117_1.H1 s9 s10 s11 s12 s13 s14 s15 s16 s17)
    = f117_1.s1 L N (fun z18 z19 z20 z21 z22 z23 z24 => κ (.exit 2) (f117_1.T1_e2 z18 z19 z20 z21 z22 z23 z24) (f117_1.H1_e2 z18 z19 z20 z21 z22 z23 z24)) (fun s9 s10 s11 s12 s13 s14 s15 s16 s17 => rec (f117_1.T1 s9 s10 s11 s12 s13 s14 s15 s16 s17) (f117_1.H1 s9 s10 s11 s12 s13 s14 s15 s16 s17)) s9 s10 s11 s12 s13 s14 s15 s16 s17 := by kernel_rfl
theorem f117_1.l1_eq {R : Type} (L N : Nat) (κ : Ex → T → H → Option R) : ∀ (n : Nat) (s9 : LI) (s10 : LLM) (s11 : LI) (s12 : Int) (s13 : Int) (s14 : Int) (s15 : Int) (s16 : LI) (s17 : LLM),
    evLp (E117_1 L N) (evCallI (E117_1 L N) 1 2000) 1000 117 61 2 f117_1.c1 κ n (f117_1.T1 s9 s10 s11 s12 s13 s14 s15 s16 s17) (f117_1.H1 s9 s10 s11 s12 s13 s14 s15 s16 s17)
    = f117_1.l1 L N (fun z18 z19 z20 z21 z22 z23 z24 => κ (.exit 2) (f117_1.T1_e2 z18 z19 z20 z21 z22 z23 z24) (f117_1.H1_e2 z18 z19 z20 z21 z22 z23 z24)) n s9 s10 s11 s12 s13 s14 s15 s16 s17 := by
  intro n
  induction n with
  | zero => intros; rfl
  | succ n ih =>
    intro s9 s10 s11 s12 s13 s14 s15 s16 s17
    rw [evLp_succ, f117_1.s1_eq]
    simp only [ih]
    rfl
theorem f117_1.p1_e2_eq {R : Type} (L N : Nat) (κ : Ex → T → H → Option R) (rec : T → H → Option R) (z18 : LI) (z19 : LLM) (z20 : LI) (z21 : Int) (z22 : Int) (z23 : LI) (z24 : LLM) :
    (contAt (E117_1 L N) (evCallI (E117_1 L N) 1 2000) 1000 117 61 2 f117_1.c0 (rdK (E117_1 L N) 1000 117 61 0 κ rec)) (.exit 2) (f117_1.T1_e2 z18 z19 z20 z21 z22 z23 z24) (f117_1.H1_e2 z18 z19 z20 z21 z22 z23 z24)
    = f117_1.p1_e2 L N (fun z7 => κ (.exit 0) (f117_1.T0_e0 z7) (f117_1.H0_e0 z7)) (fun s0 s1 s2 s3 s4 s5 s6 => rec (f117_1.T0 s0 s1 s2 s3 s4 s5 s6) (f117_1.H0 s0 s1 s2 s3 s4 s5 s6)) z18 z19 z20 z21 z22 z23 z24 := by kernel_rfl
theorem f117_1.s0_eq {R : Type} (L N : Nat) (κ : Ex → T → H → Option R) (rec : T → H → Option R) (s0 : LI) (s1 : LLM) (s2 : LI) (s3 : Int) (s4 : Int) (s5 : LI) (s6 : LLM) :
    evRd (E117_1 L N) (evCallI (E117_1 L N) 1 2000) 1000 117 61 0 f117_1.c0 κ rec (f117_1.T0 s0 s1 s2 s3 s4 s5 s6) (f117_1.H0 s0 s1 s2 s3 s4 s5 s6)
    = f117_1.s0 L N (fun z7 => κ (.exit 0) (f117_1.T0_e0 z7) (f117_1.H0_e0 z7)) (fun s0 s1 s2 s3 s4 s5 s6 => rec (f117_1.T0 s0 s1 s2 s3 s4 s5 s6) (f117_1.H0 s0 s1 s2 s3 s4 s5 s6)) s0 s1 s2 s3 s4 s5 s6 := by
  refine Eq.trans (b := f117_1.s0' L N (fun z7 => κ (.exit 0) (f117_1.T0_e0 z7) (f117_1.H0_e0 z7)) (fun s0 s1 s2 s3 s4 s5 s6 => rec (f117_1.T0 s0 s1 s2 s3 s4 s5 s6) (f117_1.H0 s0 s1 s2 s3 s4 s5 s6)) (fun s9 s10 s11 s12 s13 s14 s15 s16 s17 => evLp (E117_1 L N) (evCallI (E117_1 L N) 1 2000) 1000 117 61 2 f117_1.c1 (contAt (E117_1 L N) (evCallI (E117_1 L N) 1 2000) 1000 117 61 2 f117_1.c0 (rdK (E117_1 L N) 1000 117 61 0 κ rec)) L (f117_1.T1 s9 s10 s11 s12 s13 s14 s15 s16 s17) (f117_1.H1 s9 s10 s11 s12 s13 s14 s15 s16 s17)) s0 s1 s2 s3 s4 s5 s6) (by kernel_rfl) ?_
  unfold f117_1.s0
  simp only [f117_1.l1_eq, f117_1.p1_e2_eq]
theorem f117_1.l0_eq {R : Type} (L N : Nat) (κ : Ex → T → H → Option R) : ∀ (n : Nat) (s0 : LI) (s1 : LLM) (s2 : LI) (s3 : Int) (s4 : Int) (s5 : LI) (s6 : LLM),
    evLp (E117_1 L N) (evCallI (E117_1 L N) 1 2000) 1000 117 61 0 f117_1.c0 κ n (f117_1.T0 s0 s1 s2 s3 s4 s5 s6) (f117_1.H0 s0 s1 s2 s3 s4 s5 s6)
    = f117_1.l0 L N (fun z7 => κ (.exit 0) (f117_1.T0_e0 z7) (f117_1.H0_e0 z7)) n s0 s1 s2 s3 s4 s5 s6 := by
  intro n
  induction n with
  | zero => intros; rfl
  | succ n ih =>
    intro s0 s1 s2 s3 s4 s5 s6
    rw [evLp_succ, f117_1.s0_eq]
    simp only [ih]
    rfl
theorem f117_1.p0_e0_eq {R : Type} (L N : Nat) (κ : RN.Den .row → List Int → Option R) (z7 : LI) :
    (contAt (E117_1 L N) (evCallI (E117_1 L N) 1 2000) 1000 117 61 0 (codeOf Try.f117) (finK (E117_1 L N) 1000 Try.f117 (finN .row none 3 i64 κ))) (.exit 0) (f117_1.T0_e0 z7) (f117_1.H0_e0 z7)
    = f117_1.p0_e0 L N (fun a0 => κ () a0) z7 := by kernel_rfl
theorem f117_1.b_eq {R : Type} (L N : Nat) (κ : RN.Den .row → List Int → Option R) (x0 : LI) (x1 : LLM) (x2 : LI) :
    evBody (E117_1 L N) (evCallI (E117_1 L N) 1 2000) 1000 117 Try.f117 [(.tv (.sl i64) x0), (.fn 118 [(.imf 145 [(.imp (.sl (.sl (.st 0))) x1 0)]), (.imp (.sl i64) x2 0)])] [] [] (finN .row none 3 i64 κ)
    = f117_1.b L N (fun a0 => κ () a0) x0 x1 x2 := by
  refine Eq.trans (b := f117_1.b' L N (fun a0 => κ () a0) (fun s0 s1 s2 s3 s4 s5 s6 => evLp (E117_1 L N) (evCallI (E117_1 L N) 1 2000) 1000 117 61 0 f117_1.c0 (contAt (E117_1 L N) (evCallI (E117_1 L N) 1 2000) 1000 117 61 0 (codeOf Try.f117) (finK (E117_1 L N) 1000 Try.f117 (finN .row none 3 i64 κ))) L (f117_1.T0 s0 s1 s2 s3 s4 s5 s6) (f117_1.H0 s0 s1 s2 s3 s4 s5 s6)) x0 x1 x2) (by kernel_rfl) ?_
  unfold f117_1.b
  simp only [f117_1.l0_eq, f117_1.p0_e0_eq]
theorem f117_1.ok (L N : Nat) (hΦ : TellsOk Try.prog ((Φ118_1 L N))) : EntOkO Try.prog 117 (f117_1.ent L N) := by
  intro args vw site h a ha
  unfold f117_1.ent at ha
  split at ha
  · rename_i d hd
    obtain rfl := Option.some.inj ha
    intro y hy hs
    refine call_ronF (y := y) (dep := 1000) (E := (E117_1 L N)) (rn := .row) (q := none) (el := 3) (ty := i64) (d1 := ()) (xs := y) (κ := (fun d xs => some xs)) (sound_of hΦ) okP (callI_sound (sound_of hΦ) okP 1 2000) (f := Try.f117) rfl hs hd ?_ (fun _ _ h => by obtain rfl := Option.some.inj h; exact ⟨rfl, rfl⟩) rfl site
    exact (f117_1.b_eq L N (fun d xs => some xs) d.1 d.2.1.1.1 d.2.1.2.1).trans (Eq.trans (b := f117_1.b L N some d.1 d.2.1.1.1 d.2.1.2.1) (by kernel_rfl) hy)
  · cases ha
def Φ117_1 (L N : Nat) : Tells := (addO (Φ118_1 L N) 117 (f117_1.ent L N))
theorem Φ117_1_ok (L N : Nat) : TellsOk Try.prog (Φ117_1 L N) := addO_ok (Φ118_1_ok L N) (f117_1.ok L N (Φ118_1_ok L N))
def f81_1.s0' {R : Type} (L N : Nat) (k0_r : LLI → Option R) (rec0 : LLM → LLI → Option R) (s0 : LLM) (s1 : LLI) : Option R :=
  bif (decide (0 ≤ (wi ((s1.length : Int) - (1 : Int)))) && decide ((wi ((s1.length : Int) - (1 : Int))) < (s1.length : Int))) then
    (f117_1 L N (listAt s1 [] (wi ((s1.length : Int) - (1 : Int))).toNat) s0 (listAt s1 [] (wi ((s1.length : Int) - (1 : Int))).toNat)).bind fun y2 =>
    (f119 L N y2 (listAt s1 [] (wi ((s1.length : Int) - (1 : Int))).toNat)).bind fun y3 =>
    bif y3 then
      k0_r s1
    else bif (decide (s1.length + ([y2] : LLI).length ≤ lim)) then
      rec0 s0 (s1 ++ ([y2] : LLI))
    else none
  else none
def f81_1.s0 {R : Type} (L N : Nat) (k0_r : LLI → Option R) (rec0 : LLM → LLI → Option R) (s0 : LLM) (s1 : LLI) : Option R :=
  f81_1.s0' L N k0_r rec0 s0 s1
def f81_1.l0 {R : Type} (L N : Nat) (k0_r : LLI → Option R) : Nat → LLM → LLI → Option R
  | 0, _, _ => none
  | n + 1, s0, s1 => f81_1.s0 L N k0_r (f81_1.l0 L N k0_r n) s0 s1
def f81_1.T0 (s0 : LLM) (s1 : LLI) : T := mkT 28 [(3, (.ptr 1003 0)), (5, (.row 1010))]
def f81_1.H0 (s0 : LLM) (s1 : LLI) : H := [(1003, (.box [(.fn 145 [(.imp (.sl (.sl (.st 0))) s0 0)])])), (1010, (.row 30 (.sl i64) s1))]
def f81_1.T0_r (z4 : LLI) : T := mkT 28 [(4, (.row 1010))]
def f81_1.H0_r (z4 : LLI) : H := [(1010, (.row 30 (.sl i64) z4))]
def f81_1.p0_r' {R : Type} (L N : Nat) (k : LLI → Option R) (z4 : LLI) : Option R :=
  k z4
def f81_1.p0_r {R : Type} (L N : Nat) (k : LLI → Option R) (z4 : LLI) : Option R :=
  f81_1.p0_r' L N k z4
def f81_1.b' {R : Type} (L N : Nat) (k : LLI → Option R) (w0 : LLM → LLI → Option R) (x0 : Int) (x1 : LLM) : Option R :=
  bif (decide (0 ≤ x0) && decide (x0 ≤ (lim : Int))) then
    w0 x1 ([(List.replicate x0.toNat (0 : Int))] : LLI)
  else none
def f81_1.b {R : Type} (L N : Nat) (k : LLI → Option R) (x0 : Int) (x1 : LLM) : Option R :=
  f81_1.b' L N k (fun s0 s1 => f81_1.l0 L N (fun z4 => f81_1.p0_r L N k z4) L s0 s1) x0 x1
def f81_1 (L N : Nat) (x0 : Int) (x1 : LLM) : Option (LLI) := f81_1.b L N some x0 x1
def f81_1.ent (L N : Nat) (args : List AV) (vw : View) (site : Nat) : Option Ans := match shsC [(.dat i64), (.fn 145 [(.imp (.sl (.sl (.st 0))) 0)])] vw args with
  | some (d, u) => some ⟨LLI, f81_1 L N d.1 d.2.1.1, fun y => ((.tv (.sl (.sl i64)) y), u, [])⟩
  | none => none
noncomputable def E81_1 (L N : Nat) : Env := { P := Try.prog, ty := tyOf, Φ := (Φ117_1 L N), inl := inlT, live := lives, liveX := livesX, L := L, dp := none, prom := promT, heal := healT, ren := renT }
noncomputable def f81_1.c0 : Code := loopAt 0 (codeOf Try.f81)
theorem f81_1.s0_eq {R : Type} (L N : Nat) (κ : Ex → T → H → Option R) (rec : T → H → Option R) (s0 : LLM) (s1 : LLI) :
    evRd (E81_1 L N) (evCallI (E81_1 L N) 1 2000) 1000 81 28 0 f81_1.c0 κ rec (f81_1.T0 s0 s1) (f81_1.H0 s0 s1)
    = f81_1.s0 L N (fun z4 => κ .ret (f81_1.T0_r z4) (f81_1.H0_r z4)) (fun s0 s1 => rec (f81_1.T0 s0 s1) (f81_1.H0 s0 s1)) s0 s1 := by kernel_rfl
theorem f81_1.l0_eq {R : Type} (L N : Nat) (κ : Ex → T → H → Option R) : ∀ (n : Nat) (s0 : LLM) (s1 : LLI),
    evLp (E81_1 L N) (evCallI (E81_1 L N) 1 2000) 1000 81 28 0 f81_1.c0 κ n (f81_1.T0 s0 s1) (f81_1.H0 s0 s1)
    = f81_1.l0 L N (fun z4 => κ .ret (f81_1.T0_r z4) (f81_1.H0_r z4)) n s0 s1 := by
  intro n
  induction n with
  | zero => intros; rfl
  | succ n ih =>
    intro s0 s1
    rw [evLp_succ, f81_1.s0_eq]
    simp only [ih]
    rfl
theorem f81_1.p0_r_eq {R : Type} (L N : Nat) (κ : AV → Option R) (z4 : LLI) :
    (contAt (E81_1 L N) (evCallI (E81_1 L N) 1 2000) 1000 81 28 0 (codeOf Try.f81) (finK (E81_1 L N) 1000 Try.f81 (finC (.one (.sl (.sl i64))) κ))) .ret (f81_1.T0_r z4) (f81_1.H0_r z4)
    = f81_1.p0_r L N (fun a0 => κ (.tv (.sl (.sl i64)) a0)) z4 := by kernel_rfl
theorem f81_1.b_eq {R : Type} (L N : Nat) (κ : AV → Option R) (x0 : Int) (x1 : LLM) :
    evBody (E81_1 L N) (evCallI (E81_1 L N) 1 2000) 1000 81 Try.f81 [(.tv i64 x0), (.fn 145 [(.imp (.sl (.sl (.st 0))) x1 0)])] [] [] (finC (.one (.sl (.sl i64))) κ)
    = f81_1.b L N (fun a0 => κ (.tv (.sl (.sl i64)) a0)) x0 x1 := by
  refine Eq.trans (b := f81_1.b' L N (fun a0 => κ (.tv (.sl (.sl i64)) a0)) (fun s0 s1 => evLp (E81_1 L N) (evCallI (E81_1 L N) 1 2000) 1000 81 28 0 f81_1.c0 (contAt (E81_1 L N) (evCallI (E81_1 L N) 1 2000) 1000 81 28 0 (codeOf Try.f81) (finK (E81_1 L N) 1000 Try.f81 (finC (.one (.sl (.sl i64))) κ))) L (f81_1.T0 s0 s1) (f81_1.H0 s0 s1)) x0 x1) (by kernel_rfl) ?_
  unfold f81_1.b
  simp only [f81_1.l0_eq, f81_1.p0_r_eq]
theorem f81_1.ok (L N : Nat) (hΦ : TellsOk Try.prog ((Φ117_1 L N))) : EntOkO Try.prog 81 (f81_1.ent L N) := by
  intro args vw site h a ha
  unfold f81_1.ent at ha
  split at ha
  · rename_i d u hd
    obtain rfl := Option.some.inj ha
    intro y hy hs
    refine call_dof (dep := 1000) (E := (E81_1 L N)) (rs := (.one (.sl (.sl i64)))) (κ := unR (.one (.sl (.sl i64)))) (sound_of hΦ) okP (callI_sound (sound_of hΦ) okP 1 2000) (f := Try.f81) rfl hs hd ?_ (fun _ h => unR_some h) site
    exact (f81_1.b_eq L N (unR (.one (.sl (.sl i64)))) d.1 d.2.1.1).trans (Eq.trans (b := f81_1.b L N some d.1 d.2.1.1) (by kernel_rfl) hy)
  · cases ha
def Φ81_1 (L N : Nat) : Tells := (addO (Φ117_1 L N) 81 (f81_1.ent L N))
theorem Φ81_1_ok (L N : Nat) : TellsOk Try.prog (Φ81_1 L N) := addO_ok (Φ117_1_ok L N) (f81_1.ok L N (Φ117_1_ok L N))
def f121.b' {R : Type} (L N : Nat) (k : LLI → Option R) (x0 : Graph) : Option R :=
  (f81_1 L N (x0.moves.length : Int) x0.moves).bind fun y0 =>
  k y0
def f121.b {R : Type} (L N : Nat) (k : LLI → Option R) (x0 : Graph) : Option R :=
  f121.b' L N k x0
def f121 (L N : Nat) (x0 : Graph) : Option (LLI) := f121.b L N some x0
def f121.ent (L N : Nat) (args : List AV) (vw : View) (site : Nat) : Ans := match coeD [(.st 2)] vw args with
  | some (d, u) => ⟨LLI, f121 L N d.1, fun y => ((.tv (.sl (.sl i64)) y), u, [])⟩
  | none => Ans.no
noncomputable def E121 (L N : Nat) : Env := { P := Try.prog, ty := tyOf, Φ := (Φ81_1 L N), inl := inlT, live := lives, liveX := livesX, L := L, dp := none, prom := promT, heal := healT, ren := renT }
theorem f121.b_eq {R : Type} (L N : Nat) (κ : AV → Option R) (x0 : Graph) :
    evBody (E121 L N) (evCallI (E121 L N) 1 2000) 1000 121 Try.f121 [(.tv (.st 2) x0)] [] [] (finC (.one (.sl (.sl i64))) κ)
    = f121.b L N (fun a0 => κ (.tv (.sl (.sl i64)) a0)) x0 := by kernel_rfl
theorem f121.ok (L N : Nat) (hΦ : TellsOk Try.prog ((Φ81_1 L N))) : EntOk Try.prog 121 (f121.ent L N) := by
  intro args vw site h
  unfold f121.ent
  split
  · rename_i d u ha
    intro y hy hs
    refine call_data (dep := 1000) (E := (E121 L N)) (rs := (.one (.sl (.sl i64)))) (κ := unR (.one (.sl (.sl i64)))) (sound_of hΦ) okP (callI_sound (sound_of hΦ) okP 1 2000) (f := Try.f121) rfl hs ha ?_ (fun _ h => unR_some h) site
    exact (f121.b_eq L N (unR (.one (.sl (.sl i64)))) d.1).trans (Eq.trans (b := f121.b L N some d.1) (by kernel_rfl) hy)
  · intro y hy
    cases hy
def Φ121 (L N : Nat) : Tells := (addT (Φ81_1 L N) 121 (f121.ent L N))
theorem Φ121_ok (L N : Nat) : TellsOk Try.prog (Φ121 L N) := addT_ok (Φ81_1_ok L N) (f121.ok L N (Φ81_1_ok L N))
def f86.b' {R : Type} (L N : Nat) (k : LI → Option R) (x0 : Graph) : Option R :=
  (f121 L N (Graph.mk x0.moves)).bind fun y0 =>
  bif (decide (0 ≤ (wi ((y0.length : Int) - (1 : Int)))) && decide ((wi ((y0.length : Int) - (1 : Int))) < (y0.length : Int))) then
    ((fclone (listAt y0 [] (wi ((y0.length : Int) - (1 : Int))).toNat))).bind fun y1 =>
    k (listAt y0 [] (wi ((y0.length : Int) - (1 : Int))).toNat)
  else none
def f86.b {R : Type} (L N : Nat) (k : LI → Option R) (x0 : Graph) : Option R :=
  f86.b' L N k x0
def f86 (L N : Nat) (x0 : Graph) : Option (LI) := f86.b L N some x0
def f86.ent (L N : Nat) (args : List AV) (vw : View) (site : Nat) : Ans := match roD [(.st 2)] vw args with
  | some d => ⟨LI, f86 L N d.1, fun y => (RN.av site .row (), [(site, some (mkO none 3 i64 y))], [])⟩
  | none => Ans.no
noncomputable def E86 (L N : Nat) : Env := { P := Try.prog, ty := tyOf, Φ := (Φ121 L N), inl := inlT, live := lives, liveX := livesX, L := L, dp := none, prom := promT, heal := healT, ren := renT }
theorem f86.b_eq {R : Type} (L N : Nat) (κ : RN.Den .row → List Int → Option R) (x0 : Graph) :
    evBody (E86 L N) (evCallI (E86 L N) 1 2000) 1000 86 Try.f86 [(.tv (.st 2) x0)] [] [] (finN .row none 3 i64 κ)
    = f86.b L N (fun a0 => κ () a0) x0 := by kernel_rfl
theorem f86.ok (L N : Nat) (hΦ : TellsOk Try.prog ((Φ121 L N))) : EntOk Try.prog 86 (f86.ent L N) := by
  intro args vw site h
  unfold f86.ent
  split
  · rename_i d ha
    intro y hy hs
    refine call_ron (y := y) (dep := 1000) (E := (E86 L N)) (ts := [(.st 2)]) (rn := .row) (q := none) (el := 3) (ty := i64) (d1 := ()) (xs := y) (κ := (fun d xs => some xs)) (sound_of hΦ) okP (callI_sound (sound_of hΦ) okP 1 2000) (f := Try.f86) rfl hs ha ?_ (fun _ _ h => by obtain rfl := Option.some.inj h; exact ⟨rfl, rfl⟩) rfl site
    exact (f86.b_eq L N (fun d xs => some xs) d.1).trans (Eq.trans (b := f86.b L N some d.1) (by kernel_rfl) hy)
  · intro y hy
    cases hy
def Φ86 (L N : Nat) : Tells := (addT (Φ121 L N) 86 (f86.ent L N))
theorem Φ86_ok (L N : Nat) : TellsOk Try.prog (Φ86 L N) := addT_ok (Φ121_ok L N) (f86.ok L N (Φ121_ok L N))
def f44.b' {R : Type} (L N : Nat) (k : LI → Option R) (x0 : Graph) : Option R :=
  (f32 L N (Graph.mk x0.moves)).bind fun y0 =>
  bif (!y0) then
    k []
  else (f86 L N (Graph.mk x0.moves)).bind fun y1 =>
  k y1
def f44.b {R : Type} (L N : Nat) (k : LI → Option R) (x0 : Graph) : Option R :=
  f44.b' L N k x0
def f44 (L N : Nat) (x0 : Graph) : Option (LI) := f44.b L N some x0
def f44.ent (L N : Nat) (args : List AV) (vw : View) (site : Nat) : Ans := match roD [(.st 2)] vw args with
  | some d => ⟨LI, f44 L N d.1, fun y => (RN.av site .row (), [(site, some (mkO none 3 i64 y))], [])⟩
  | none => Ans.no
noncomputable def E44 (L N : Nat) : Env := { P := Try.prog, ty := tyOf, Φ := (Φ86 L N), inl := inlT, live := lives, liveX := livesX, L := L, dp := none, prom := promT, heal := healT, ren := renT }
theorem f44.b_eq {R : Type} (L N : Nat) (κ : RN.Den .row → List Int → Option R) (x0 : Graph) :
    evBody (E44 L N) (evCallI (E44 L N) 1 2000) 1000 44 Try.f44 [(.tv (.st 2) x0)] [] [] (finN .row none 3 i64 κ)
    = f44.b L N (fun a0 => κ () a0) x0 := by kernel_rfl
theorem f44.ok (L N : Nat) (hΦ : TellsOk Try.prog ((Φ86 L N))) : EntOk Try.prog 44 (f44.ent L N) := by
  intro args vw site h
  unfold f44.ent
  split
  · rename_i d ha
    intro y hy hs
    refine call_ron (y := y) (dep := 1000) (E := (E44 L N)) (ts := [(.st 2)]) (rn := .row) (q := none) (el := 3) (ty := i64) (d1 := ()) (xs := y) (κ := (fun d xs => some xs)) (sound_of hΦ) okP (callI_sound (sound_of hΦ) okP 1 2000) (f := Try.f44) rfl hs ha ?_ (fun _ _ h => by obtain rfl := Option.some.inj h; exact ⟨rfl, rfl⟩) rfl site
    exact (f44.b_eq L N (fun d xs => some xs) d.1).trans (Eq.trans (b := f44.b L N some d.1) (by kernel_rfl) hy)
  · intro y hy
    cases hy
def Φ44 (L N : Nat) : Tells := (addT (Φ86 L N) 44 (f44.ent L N))
theorem Φ44_ok (L N : Nat) : TellsOk Try.prog (Φ44 L N) := addT_ok (Φ86_ok L N) (f44.ok L N (Φ86_ok L N))
def f68.b' {R : Type} (L N : Nat) (k : LI → Int → Option R) (x0 : LI) : Option R :=
  bif (decide ((x0.length : Int) > (2000 : Int))) then
    bif (slB (0 : Int) (2000 : Int) x0.length) then
      k (slX x0 (0 : Int) (2000 : Int)) (0 : Int)
    else none
  else k x0 (0 : Int)
def f68.b {R : Type} (L N : Nat) (k : LI → Int → Option R) (x0 : LI) : Option R :=
  f68.b' L N k x0
def f68 (L N : Nat) (x0 : LI) : Option (LI × Int) := f68.b L N (fun a0 a1 => some (a0, a1)) x0
def f68.ent (L N : Nat) (args : List AV) (vw : View) (site : Nat) : Ans := match coeD [(.sl (.int .u8))] vw args with
  | some (d, u) => ⟨LI × Int, f68 L N d.1, fun y => (.ptr site 0, u ++ [(site, some (.box [(.tv (.sl (.int .u8)) y.1), (.tv i64 y.2)]))], [])⟩
  | none => Ans.no
noncomputable def E68 (L N : Nat) : Env := { P := Try.prog, ty := tyOf, Φ := (Φ44 L N), inl := inlT, live := lives, liveX := livesX, L := L, dp := none, prom := promT, heal := healT, ren := renT }
theorem f68.b_eq {R : Type} (L N : Nat) (κ : Dens [(.sl (.int .u8)), i64] → Option R) (x0 : LI) :
    evBody (E68 L N) (evCallI (E68 L N) 1 2000) 1000 68 Try.f68 [(.tv (.sl (.int .u8)) x0)] [] [] (finB [(.sl (.int .u8)), i64] κ)
    = f68.b L N (fun a0 a1 => κ (a0, a1, ())) x0 := by kernel_rfl
theorem f68.ok (L N : Nat) (hΦ : TellsOk Try.prog ((Φ44 L N))) : EntOk Try.prog 68 (f68.ent L N) := by
  intro args vw site h
  unfold f68.ent
  split
  · rename_i d u ha
    intro y hy hs
    refine call_newbox (y := y) (dep := 1000) (d1 := (y.1, y.2, ())) (E := (E68 L N)) (ts := [(.sl (.int .u8))]) (tb := [(.sl (.int .u8)), i64]) (κ := (fun d => some (d.1, d.2.1))) (sound_of hΦ) okP (callI_sound (sound_of hΦ) okP 1 2000) (f := Try.f68) rfl hs ha ?_ (fun _ h => by obtain rfl := Option.some.inj h; rfl) site
    exact (f68.b_eq L N (fun d => some (d.1, d.2.1)) d.1).trans (Eq.trans (b := f68.b L N (fun a0 a1 => some (a0, a1)) d.1) (by kernel_rfl) hy)
  · intro y hy
    cases hy
def Φ68 (L N : Nat) : Tells := (addT (Φ44 L N) 68 (f68.ent L N))
theorem Φ68_ok (L N : Nat) : TellsOk Try.prog (Φ68 L N) := addT_ok (Φ44_ok L N) (f68.ok L N (Φ44_ok L N))
def f91.j0' {R : Type} (L N : Nat) (k : Int → LI → Int → Option R) (v4 : Int) (v5 : LI) (v6 : Int) : Option R :=
  bif (decide ((wi (v6 - (1 : Int))) < (v5.length : Int))) then
    bif (decide (0 ≤ (wi (v6 - (1 : Int)))) && decide ((wi (v6 - (1 : Int))) < (v5.length : Int))) then
      bif (decide (v4 = 0)) then
        none
      else k (Int.tmod (wi ((listAt v5 (0 : Int) (wi (v6 - (1 : Int))).toNat))) v4) v5 v6
    else none
  else bif (decide ((v5.length : Int) = 0)) then
    none
  else bif (decide (0 ≤ (Int.tmod (wi (v6 - (1 : Int))) (v5.length : Int))) && decide ((Int.tmod (wi (v6 - (1 : Int))) (v5.length : Int)) < (v5.length : Int))) then
    bif (decide ((v5.length : Int) = 0)) then
      none
    else bif (decide (0 ≤ (Int.tmod (wi ((wi ((wi (v6 - (1 : Int))) * (7 : Int))) + (3 : Int))) (v5.length : Int))) && decide ((Int.tmod (wi ((wi ((wi (v6 - (1 : Int))) * (7 : Int))) + (3 : Int))) (v5.length : Int)) < (v5.length : Int))) then
      bif (decide ((v5.length : Int) = 0)) then
        none
      else bif (decide ((64 : Int) = 0)) then
        none
      else bif (decide (v4 = 0)) then
        none
      else k (Int.tmod (IntKind.wrap .i64 ((BitVec.ofInt (IntKind.bits .i64) (wi ((wi ((wi ((wi ((wi ((listAt v5 (0 : Int) (Int.tmod (wi (v6 - (1 : Int))) (v5.length : Int)).toNat))) * (131 : Int))) + (wi ((wi ((listAt v5 (0 : Int) (Int.tmod (wi ((wi ((wi (v6 - (1 : Int))) * (7 : Int))) + (3 : Int))) (v5.length : Int)).toNat))) * (1117 : Int))))) + (wi ((wi (v6 - (1 : Int))) * (29 : Int))))) + (wi ((wi (Int.tdiv (wi (v6 - (1 : Int))) (v5.length : Int))) * (53 : Int))))) ^^^ BitVec.ofInt (IntKind.bits .i64) (wi (Int.tdiv (wi ((wi ((wi ((wi ((wi ((listAt v5 (0 : Int) (Int.tmod (wi (v6 - (1 : Int))) (v5.length : Int)).toNat))) * (131 : Int))) + (wi ((wi ((listAt v5 (0 : Int) (Int.tmod (wi ((wi ((wi (v6 - (1 : Int))) * (7 : Int))) + (3 : Int))) (v5.length : Int)).toNat))) * (1117 : Int))))) + (wi ((wi (v6 - (1 : Int))) * (29 : Int))))) + (wi ((wi (Int.tdiv (wi (v6 - (1 : Int))) (v5.length : Int))) * (53 : Int))))) (64 : Int)))).toNat)) v4) v5 v6
    else none
  else none
def f91.b' {R : Type} (L N : Nat) (k : Int → LI → Int → Option R) (c0 : LI) (c1 : Int) (x0 : Int) : Option R :=
  bif (decide (x0 < (1 : Int))) then
    k (0 : Int) c0 (wi (c1 + (1 : Int)))
  else bif ((c0.length : Int) == (0 : Int)) then
    k (0 : Int) c0 (wi (c1 + (1 : Int)))
  else f91.j0' L N k x0 c0 (wi (c1 + (1 : Int)))
def f91.b {R : Type} (L N : Nat) (k : Int → LI → Int → Option R) (c0 : LI) (c1 : Int) (x0 : Int) : Option R :=
  f91.b' L N k c0 c1 x0
def f91 (L N : Nat) (c0 : LI) (c1 : Int) (x0 : Int) : Option (Int × LI × Int) := f91.b L N (fun a0 a1 a2 => some (a0, a1, a2)) c0 c1 x0
def f91.ent (L N : Nat) (args : List AV) (vw : View) (site : Nat) : Ans := match boxD [(.sl (.int .u8)), i64] [i64] vw args with
  | some (o, d0, d, u) => ⟨Int × LI × Int, f91 L N d0.1 d0.2.1 d.1, fun y => ((.tv i64 y.1), u ++ [(o, some (.box [(.tv (.sl (.int .u8)) y.2.1), (.tv i64 y.2.2)]))], [])⟩
  | none => Ans.no
noncomputable def E91 (L N : Nat) : Env := { P := Try.prog, ty := tyOf, Φ := (Φ68 L N), inl := inlT, live := lives, liveX := livesX, L := L, dp := none, prom := promT, heal := healT, ren := renT }
theorem f91.b_eq {R : Type} (L N : Nat) (κ : AV → Dens [(.sl (.int .u8)), i64] → Option R) (c0 : LI) (c1 : Int) (x0 : Int) :
    evBody (E91 L N) (evCallI (E91 L N) 1 2000) 1000 91 Try.f91 [(.ptr 0 0), (.tv i64 x0)] [.ptr 0 0] [(0, (.box [(.tv (.sl (.int .u8)) c0), (.tv i64 c1)]))] (finM (.one i64) [(.sl (.int .u8)), i64] κ)
    = f91.b L N (fun a0 a1 a2 => κ (.tv i64 a0) (a1, a2, ())) c0 c1 x0 := by kernel_rfl
theorem f91.ok (L N : Nat) (hΦ : TellsOk Try.prog ((Φ68 L N))) : EntOk Try.prog 91 (f91.ent L N) := by
  intro args vw site h
  unfold f91.ent
  split
  · rename_i o d0 d u ha
    intro y hy hs
    obtain ⟨rest, cs, rfl, ho, hd0, hr, hu⟩ := boxD_some ha
    refine call_box (y := y) (dep := 1000) (v' := (.tv i64 y.1)) (d1 := (y.2.1, y.2.2, ())) (E := (E91 L N)) (ts := [(.sl (.int .u8)), i64]) (tr := [i64]) (rs := (.one i64)) (κ := (fun v d => (unR (.one i64) v).bind fun x => some (x, d.1, d.2.1))) (sound_of hΦ) okP (callI_sound (sound_of hΦ) okP 1 2000) (f := Try.f91) rfl hs ho hd0 hr hu ?_ (fun _ _ h => by obtain ⟨x, h1, h2⟩ := unR_bind h; obtain rfl := Option.some.inj h2; exact ⟨h1, rfl⟩) site
    exact (f91.b_eq L N (fun v d => (unR (.one i64) v).bind fun x => some (x, d.1, d.2.1)) d0.1 d0.2.1 d.1).trans (Eq.trans (b := f91.b L N (fun a0 a1 a2 => some (a0, a1, a2)) d0.1 d0.2.1 d.1) (by kernel_rfl) hy)
  · intro y hy
    cases hy
def Φ91 (L N : Nat) : Tells := (addT (Φ68 L N) 91 (f91.ent L N))
theorem Φ91_ok (L N : Nat) : TellsOk Try.prog (Φ91 L N) := addT_ok (Φ68_ok L N) (f91.ok L N (Φ68_ok L N))
def f134.b' {R : Type} (L N : Nat) (k : Int → LI → Int → Option R) (c0 : LI) (c1 : Int) : Option R :=
  (f91 L N c0 c1 (3 : Int)).bind fun y0 =>
  bif (decide (y0.1 > (0 : Int))) then
    (f91 L N y0.2.1 y0.2.2 (5 : Int)).bind fun y1 =>
    k (wi (y1.1 - (2 : Int))) y1.2.1 y1.2.2
  else (f91 L N y0.2.1 y0.2.2 (9 : Int)).bind fun y2 =>
  k (wi (y2.1 - (4 : Int))) y2.2.1 y2.2.2
def f134.b {R : Type} (L N : Nat) (k : Int → LI → Int → Option R) (c0 : LI) (c1 : Int) : Option R :=
  f134.b' L N k c0 c1
def f134 (L N : Nat) (c0 : LI) (c1 : Int) : Option (Int × LI × Int) := f134.b L N (fun a0 a1 a2 => some (a0, a1, a2)) c0 c1
def f134.ent (L N : Nat) (args : List AV) (vw : View) (site : Nat) : Ans := match boxD [(.sl (.int .u8)), i64] [] vw args with
  | some (o, d0, d, u) => ⟨Int × LI × Int, f134 L N d0.1 d0.2.1, fun y => ((.tv i64 y.1), u ++ [(o, some (.box [(.tv (.sl (.int .u8)) y.2.1), (.tv i64 y.2.2)]))], [])⟩
  | none => Ans.no
noncomputable def E134 (L N : Nat) : Env := { P := Try.prog, ty := tyOf, Φ := (Φ91 L N), inl := inlT, live := lives, liveX := livesX, L := L, dp := none, prom := promT, heal := healT, ren := renT }
theorem f134.b_eq {R : Type} (L N : Nat) (κ : AV → Dens [(.sl (.int .u8)), i64] → Option R) (c0 : LI) (c1 : Int) :
    evBody (E134 L N) (evCallI (E134 L N) 1 2000) 1000 134 Try.f134 [(.ptr 0 0)] [.ptr 0 0] [(0, (.box [(.tv (.sl (.int .u8)) c0), (.tv i64 c1)]))] (finM (.one i64) [(.sl (.int .u8)), i64] κ)
    = f134.b L N (fun a0 a1 a2 => κ (.tv i64 a0) (a1, a2, ())) c0 c1 := by kernel_rfl
theorem f134.ok (L N : Nat) (hΦ : TellsOk Try.prog ((Φ91 L N))) : EntOk Try.prog 134 (f134.ent L N) := by
  intro args vw site h
  unfold f134.ent
  split
  · rename_i o d0 d u ha
    intro y hy hs
    obtain ⟨rest, cs, rfl, ho, hd0, hr, hu⟩ := boxD_some ha
    refine call_box (y := y) (dep := 1000) (v' := (.tv i64 y.1)) (d1 := (y.2.1, y.2.2, ())) (E := (E134 L N)) (ts := [(.sl (.int .u8)), i64]) (tr := []) (rs := (.one i64)) (κ := (fun v d => (unR (.one i64) v).bind fun x => some (x, d.1, d.2.1))) (sound_of hΦ) okP (callI_sound (sound_of hΦ) okP 1 2000) (f := Try.f134) rfl hs ho hd0 hr hu ?_ (fun _ _ h => by obtain ⟨x, h1, h2⟩ := unR_bind h; obtain rfl := Option.some.inj h2; exact ⟨h1, rfl⟩) site
    exact (f134.b_eq L N (fun v d => (unR (.one i64) v).bind fun x => some (x, d.1, d.2.1)) d0.1 d0.2.1).trans (Eq.trans (b := f134.b L N (fun a0 a1 a2 => some (a0, a1, a2)) d0.1 d0.2.1) (by kernel_rfl) hy)
  · intro y hy
    cases hy
def Φ134 (L N : Nat) : Tells := (addT (Φ91 L N) 134 (f134.ent L N))
theorem Φ134_ok (L N : Nat) : TellsOk Try.prog (Φ134 L N) := addT_ok (Φ91_ok L N) (f134.ok L N (Φ91_ok L N))
def f147.j0' {R : Type} (L N : Nat) (self147 : LI → Int → Int → Int → Bool → Option (Tree × LI × Int)) (k : Tree → LI → Int → Option R) (v10 : Int) (v11 : Int) (v12 : Bool) (v13 : Int) (v14 : Bool) (v15 : LI) (v16 : Int) (v17 : Int) (v18 : Int) : Option R :=
  bif v14 then
    (f91 L N v15 v16 v11).bind fun y19 =>
    k (Tree.mk (5 : Int) y19.1 []) y19.2.1 y19.2.2
  else bif (v13 == (0 : Int)) then
    k (Tree.mk (0 : Int) (0 : Int) []) v15 v16
  else bif (decide (v13 < (5 : Int))) then
    (f134 L N v15 v16).bind fun y20 =>
    bif (v10 == (0 : Int)) then
      k (Tree.mk (1 : Int) y20.1 ([(Tree.mk (0 : Int) (0 : Int) [])] : LT)) y20.2.1 y20.2.2
    else (self147 y20.2.1 y20.2.2 (bif decide ((wi (v10 - (1 : Int))) > (0 : Int)) then (wi (v10 - (1 : Int))) else (0 : Int)) v11 true).bind fun y21 =>
    k (Tree.mk (1 : Int) y20.1 ([y21.1] : LT)) y21.2.1 y21.2.2
  else bif (v13 == (5 : Int)) then
    (f91 L N v15 v16 (4 : Int)).bind fun y22 =>
    (self147 y22.2.1 y22.2.2 (wi (v10 - (1 : Int))) v11 v12).bind fun y23 =>
    k (Tree.mk (4 : Int) y22.1 ([y23.1] : LT)) y23.2.1 y23.2.2
  else bif (v13 == (8 : Int)) then
    (self147 v15 v16 (wi (v10 - (1 : Int))) v11 v12).bind fun y34 =>
    (self147 y34.2.1 y34.2.2 (wi (v10 - (1 : Int))) v11 v12).bind fun y35 =>
    k (Tree.mk (3 : Int) (0 : Int) ([(Tree.mk y34.1.op y34.1.n y34.1.parts), (Tree.mk y35.1.op y35.1.n y35.1.parts)] : LT)) y35.2.1 y35.2.2
  else (self147 v15 v16 (wi (v10 - (1 : Int))) v11 v12).bind fun y36 =>
  (self147 y36.2.1 y36.2.2 (wi (v10 - (1 : Int))) v11 v12).bind fun y37 =>
  k (Tree.mk (2 : Int) (0 : Int) ([(Tree.mk y36.1.op y36.1.n y36.1.parts), (Tree.mk y37.1.op y37.1.n y37.1.parts)] : LT)) y37.2.1 y37.2.2
def f147.j1' {R : Type} (L N : Nat) (self147 : LI → Int → Int → Int → Bool → Option (Tree × LI × Int)) (k : Tree → LI → Int → Option R) (v2 : Int) (v3 : Int) (v4 : Bool) (v5 : Int) (v6 : LI) (v7 : Int) (v8 : Int) (v9 : Int) : Option R :=
  bif (decide (v5 < (2 : Int))) then
    bif (decide (v3 > (0 : Int))) then
      f147.j0' L N self147 k v2 v3 v4 v5 v4 v6 v7 v8 v9
    else f147.j0' L N self147 k v2 v3 v4 v5 false v6 v7 v8 v9
  else f147.j0' L N self147 k v2 v3 v4 v5 false v6 v7 v8 v9
def f147.b' {R : Type} (L N : Nat) (self147 : LI → Int → Int → Int → Bool → Option (Tree × LI × Int)) (k : Tree → LI → Int → Option R) (c0 : LI) (c1 : Int) (x0 : Int) (x1 : Int) (x2 : Bool) : Option R :=
  (f91 L N c0 c1 (9 : Int)).bind fun y0 =>
  bif (x0 == (0 : Int)) then
    (f91 L N y0.2.1 y0.2.2 (2 : Int)).bind fun y1 =>
    f147.j1' L N self147 k x0 x1 x2 y1.1 y1.2.1 y1.2.2 (0 : Int) (0 : Int)
  else f147.j1' L N self147 k x0 x1 x2 y0.1 y0.2.1 y0.2.2 (0 : Int) (0 : Int)
def f147.b {R : Type} (L N : Nat) (self147 : LI → Int → Int → Int → Bool → Option (Tree × LI × Int)) (k : Tree → LI → Int → Option R) (c0 : LI) (c1 : Int) (x0 : Int) (x1 : Int) (x2 : Bool) : Option R :=
  f147.b' L N self147 k c0 c1 x0 x1 x2
def f147 (L N : Nat) : Nat → LI → Int → Int → Int → Bool → Option (Tree × LI × Int)
  | 0, _, _, _, _, _ => none
  | n + 1, c0, c1, x0, x1, x2 => f147.b L N (f147 L N n) (fun a0 a1 a2 => some (a0, a1, a2)) c0 c1 x0 x1 x2
def f147.ent (L N m : Nat) (args : List AV) (vw : View) (site : Nat) : Ans := match boxD [(.sl (.int .u8)), i64] [i64, i64, .bool] vw args with
  | some (o, d0, d, u) => ⟨Tree × LI × Int, f147 L N m d0.1 d0.2.1 d.1 d.2.1 d.2.2.1, fun y => ((.tv (.st 1) y.1), u ++ [(o, some (.box [(.tv (.sl (.int .u8)) y.2.1), (.tv i64 y.2.2)]))], [])⟩
  | none => Ans.no
def Φ147s (L N m : Nat) : Tells := (addT (Φ134 L N) 147 (f147.ent L N m))
noncomputable def E147 (L N m : Nat) : Env := { P := Try.prog, ty := tyOf, Φ := Φ147s L N m, inl := inlT, live := lives, liveX := livesX, L := L, dp := none, prom := promT, heal := healT, ren := renT }
theorem f147.b_eq {R : Type} (L N m : Nat) (κ : AV → Dens [(.sl (.int .u8)), i64] → Option R) (c0 : LI) (c1 : Int) (x0 : Int) (x1 : Int) (x2 : Bool) :
    evBody (E147 L N m) (evCallI (E147 L N m) 1 2000) 1000 147 Try.f147 [(.ptr 0 0), (.tv i64 x0), (.tv i64 x1), (.tv .bool x2)] [.ptr 0 0] [(0, (.box [(.tv (.sl (.int .u8)) c0), (.tv i64 c1)]))] (finM (.one (.st 1)) [(.sl (.int .u8)), i64] κ)
    = f147.b L N (f147 L N m) (fun a0 a1 a2 => κ (.tv (.st 1) a0) (a1, a2, ())) c0 c1 x0 x1 x2 := by kernel_rfl
theorem f147.ok (L N m : Nat) (hΦ : TellsOk Try.prog (Φ147s L N m)) : EntOk Try.prog 147 (f147.ent L N (m + 1)) := by
  intro args vw site h
  unfold f147.ent
  split
  · rename_i o d0 d u ha
    intro y hy hs
    obtain ⟨rest, cs, rfl, ho, hd0, hr, hu⟩ := boxD_some ha
    refine call_box (y := y) (dep := 1000) (v' := (.tv (.st 1) y.1)) (d1 := (y.2.1, y.2.2, ())) (E := (E147 L N m)) (ts := [(.sl (.int .u8)), i64]) (tr := [i64, i64, .bool]) (rs := (.one (.st 1))) (κ := (fun v d => (unR (.one (.st 1)) v).bind fun x => some (x, d.1, d.2.1))) (sound_of hΦ) okP (callI_sound (sound_of hΦ) okP 1 2000) (f := Try.f147) rfl hs ho hd0 hr hu ?_ (fun _ _ h => by obtain ⟨x, h1, h2⟩ := unR_bind h; obtain rfl := Option.some.inj h2; exact ⟨h1, rfl⟩) site
    exact (f147.b_eq L N m (fun v d => (unR (.one (.st 1)) v).bind fun x => some (x, d.1, d.2.1)) d0.1 d0.2.1 d.1 d.2.1 d.2.2.1).trans (Eq.trans (b := f147.b L N (f147 L N m) (fun a0 a1 a2 => some (a0, a1, a2)) d0.1 d0.2.1 d.1 d.2.1 d.2.2.1) (by kernel_rfl) hy)
  · intro y hy
    cases hy
theorem Φ147s_ok (L N : Nat) : ∀ m, TellsOk Try.prog (Φ147s L N m) := by
  intro m
  induction m with
  | zero => exact (addT_ok (Φ134_ok L N) (fun args vw site h => by unfold f147.ent; split <;> (intro y hy; cases hy)))
  | succ m ih => exact (addT_ok (Φ134_ok L N) (f147.ok L N m ih))
def Φ147 (L N : Nat) : Tells := (addT (Φ134 L N) 147 (f147.ent L N N))
theorem Φ147_ok (L N : Nat) : TellsOk Try.prog (Φ147 L N) := Φ147s_ok L N N
def f130.s0' {R : Type} (L N : Nat) (k0_e0 : Int → LI → Int → LT → Option R) (rec0 : Int → Int → LI → Int → LT → Option R) (s1 : Int) (s2 : Int) (s3 : LI) (s4 : Int) (s5 : LT) : Option R :=
  bif (decide (s2 < s1)) then
    (f91 L N s3 s4 (3 : Int)).bind fun y10 =>
    (f147 L N N y10.2.1 y10.2.2 (wi ((1 : Int) + y10.1)) s1 false).bind fun y11 =>
    bif (decide (s5.length + ([y11.1] : LT).length ≤ lim)) then
      rec0 s1 (wi (s2 + (1 : Int))) y11.2.1 y11.2.2 (s5 ++ ([y11.1] : LT))
    else none
  else k0_e0 s1 s3 s4 s5
def f130.s0 {R : Type} (L N : Nat) (k0_e0 : Int → LI → Int → LT → Option R) (rec0 : Int → Int → LI → Int → LT → Option R) (s1 : Int) (s2 : Int) (s3 : LI) (s4 : Int) (s5 : LT) : Option R :=
  f130.s0' L N k0_e0 rec0 s1 s2 s3 s4 s5
def f130.l0 {R : Type} (L N : Nat) (k0_e0 : Int → LI → Int → LT → Option R) : Nat → Int → Int → LI → Int → LT → Option R
  | 0, _, _, _, _, _ => none
  | n + 1, s1, s2, s3, s4, s5 => f130.s0 L N k0_e0 (f130.l0 L N k0_e0 n) s1 s2 s3 s4 s5
def f130.T0 (s1 : Int) (s2 : Int) (s3 : LI) (s4 : Int) (s5 : LT) : T := mkT 41 [(0, (.ptr 0 0)), (3, (.tv i64 s1)), (4, (.row 1008)), (5, (.tv i64 s2))] ++ [.ptr 0 0]
def f130.H0 (s1 : Int) (s2 : Int) (s3 : LI) (s4 : Int) (s5 : LT) : H := [(0, (.box [(.tv (.sl (.int .u8)) s3), (.tv i64 s4)])), (1008, (.row 110 (.st 1) s5))]
def f130.T0_e0 (z6 : Int) (z7 : LI) (z8 : Int) (z9 : LT) : T := mkT 41 [(0, (.ptr 0 0)), (3, (.tv i64 z6)), (4, (.row 1008))] ++ [.ptr 0 0]
def f130.H0_e0 (z6 : Int) (z7 : LI) (z8 : Int) (z9 : LT) : H := [(0, (.box [(.tv (.sl (.int .u8)) z7), (.tv i64 z8)])), (1008, (.row 110 (.st 1) z9))]
def f130.j0' {R : Type} (L N : Nat) (k : LT → LI → Int → Option R) (v13 : Int) (v14 : Bool) (v15 : LI) (v16 : Int) (v17 : LT) : Option R :=
  bif v14 then
    (f91 L N v15 v16 v13).bind fun y18 =>
    (f91 L N y18.2.1 y18.2.2 (wi (v13 + (1 : Int)))).bind fun y19 =>
    bif (decide (0 ≤ y18.1) && decide (y18.1 < (v17.length : Int))) then
      k (v17.set y18.1.toNat (Tree.mk (5 : Int) y19.1 [])) y19.2.1 y19.2.2
    else none
  else k v17 v15 v16
def f130.p0_e0' {R : Type} (L N : Nat) (k : LT → LI → Int → Option R) (z6 : Int) (z7 : LI) (z8 : Int) (z9 : LT) : Option R :=
  bif (decide (z6 > (0 : Int))) then
    (f91 L N z7 z8 (20 : Int)).bind fun y12 =>
    f130.j0' L N k z6 (y12.1 == (0 : Int)) y12.2.1 y12.2.2 z9
  else f130.j0' L N k z6 false z7 z8 z9
def f130.p0_e0 {R : Type} (L N : Nat) (k : LT → LI → Int → Option R) (z6 : Int) (z7 : LI) (z8 : Int) (z9 : LT) : Option R :=
  f130.p0_e0' L N k z6 z7 z8 z9
def f130.b' {R : Type} (L N : Nat) (k : LT → LI → Int → Option R) (w0 : Int → Int → LI → Int → LT → Option R) (c0 : LI) (c1 : Int) : Option R :=
  (f91 L N c0 c1 (4 : Int)).bind fun y0 =>
  w0 y0.1 (0 : Int) y0.2.1 y0.2.2 ([] : LT)
def f130.b {R : Type} (L N : Nat) (k : LT → LI → Int → Option R) (c0 : LI) (c1 : Int) : Option R :=
  f130.b' L N k (fun s1 s2 s3 s4 s5 => f130.l0 L N (fun z6 z7 z8 z9 => f130.p0_e0 L N k z6 z7 z8 z9) L s1 s2 s3 s4 s5) c0 c1
def f130 (L N : Nat) (c0 : LI) (c1 : Int) : Option (LT × LI × Int) := f130.b L N (fun a0 a1 a2 => some (a0, a1, a2)) c0 c1
def f130.ent (L N : Nat) (args : List AV) (vw : View) (site : Nat) : Ans := match boxD [(.sl (.int .u8)), i64] [] vw args with
  | some (o, d0, d, u) => ⟨LT × LI × Int, f130 L N d0.1 d0.2.1, fun y => ((.tv (.sl (.st 1)) y.1), u ++ [(o, some (.box [(.tv (.sl (.int .u8)) y.2.1), (.tv i64 y.2.2)]))], [])⟩
  | none => Ans.no
noncomputable def E130 (L N : Nat) : Env := { P := Try.prog, ty := tyOf, Φ := (Φ147 L N), inl := inlT, live := lives, liveX := livesX, L := L, dp := none, prom := promT, heal := healT, ren := renT }
noncomputable def f130.c0 : Code := loopAt 0 (codeOf Try.f130)
theorem f130.s0_eq {R : Type} (L N : Nat) (κ : Ex → T → H → Option R) (rec : T → H → Option R) (s1 : Int) (s2 : Int) (s3 : LI) (s4 : Int) (s5 : LT) :
    evRd (E130 L N) (evCallI (E130 L N) 1 2000) 1000 130 41 0 f130.c0 κ rec (f130.T0 s1 s2 s3 s4 s5) (f130.H0 s1 s2 s3 s4 s5)
    = f130.s0 L N (fun z6 z7 z8 z9 => κ (.exit 0) (f130.T0_e0 z6 z7 z8 z9) (f130.H0_e0 z6 z7 z8 z9)) (fun s1 s2 s3 s4 s5 => rec (f130.T0 s1 s2 s3 s4 s5) (f130.H0 s1 s2 s3 s4 s5)) s1 s2 s3 s4 s5 := by kernel_rfl
theorem f130.l0_eq {R : Type} (L N : Nat) (κ : Ex → T → H → Option R) : ∀ (n : Nat) (s1 : Int) (s2 : Int) (s3 : LI) (s4 : Int) (s5 : LT),
    evLp (E130 L N) (evCallI (E130 L N) 1 2000) 1000 130 41 0 f130.c0 κ n (f130.T0 s1 s2 s3 s4 s5) (f130.H0 s1 s2 s3 s4 s5)
    = f130.l0 L N (fun z6 z7 z8 z9 => κ (.exit 0) (f130.T0_e0 z6 z7 z8 z9) (f130.H0_e0 z6 z7 z8 z9)) n s1 s2 s3 s4 s5 := by
  intro n
  induction n with
  | zero => intros; rfl
  | succ n ih =>
    intro s1 s2 s3 s4 s5
    rw [evLp_succ, f130.s0_eq]
    simp only [ih]
    rfl
theorem f130.p0_e0_eq {R : Type} (L N : Nat) (κ : AV → Dens [(.sl (.int .u8)), i64] → Option R) (z6 : Int) (z7 : LI) (z8 : Int) (z9 : LT) :
    (contAt (E130 L N) (evCallI (E130 L N) 1 2000) 1000 130 41 0 (codeOf Try.f130) (finK (E130 L N) 1000 Try.f130 (finM (.one (.sl (.st 1))) [(.sl (.int .u8)), i64] κ))) (.exit 0) (f130.T0_e0 z6 z7 z8 z9) (f130.H0_e0 z6 z7 z8 z9)
    = f130.p0_e0 L N (fun a0 a1 a2 => κ (.tv (.sl (.st 1)) a0) (a1, a2, ())) z6 z7 z8 z9 := by kernel_rfl
theorem f130.b_eq {R : Type} (L N : Nat) (κ : AV → Dens [(.sl (.int .u8)), i64] → Option R) (c0 : LI) (c1 : Int) :
    evBody (E130 L N) (evCallI (E130 L N) 1 2000) 1000 130 Try.f130 [(.ptr 0 0)] [.ptr 0 0] [(0, (.box [(.tv (.sl (.int .u8)) c0), (.tv i64 c1)]))] (finM (.one (.sl (.st 1))) [(.sl (.int .u8)), i64] κ)
    = f130.b L N (fun a0 a1 a2 => κ (.tv (.sl (.st 1)) a0) (a1, a2, ())) c0 c1 := by
  refine Eq.trans (b := f130.b' L N (fun a0 a1 a2 => κ (.tv (.sl (.st 1)) a0) (a1, a2, ())) (fun s1 s2 s3 s4 s5 => evLp (E130 L N) (evCallI (E130 L N) 1 2000) 1000 130 41 0 f130.c0 (contAt (E130 L N) (evCallI (E130 L N) 1 2000) 1000 130 41 0 (codeOf Try.f130) (finK (E130 L N) 1000 Try.f130 (finM (.one (.sl (.st 1))) [(.sl (.int .u8)), i64] κ))) L (f130.T0 s1 s2 s3 s4 s5) (f130.H0 s1 s2 s3 s4 s5)) c0 c1) (by kernel_rfl) ?_
  unfold f130.b
  simp only [f130.l0_eq, f130.p0_e0_eq]
theorem f130.ok (L N : Nat) (hΦ : TellsOk Try.prog ((Φ147 L N))) : EntOk Try.prog 130 (f130.ent L N) := by
  intro args vw site h
  unfold f130.ent
  split
  · rename_i o d0 d u ha
    intro y hy hs
    obtain ⟨rest, cs, rfl, ho, hd0, hr, hu⟩ := boxD_some ha
    refine call_box (y := y) (dep := 1000) (v' := (.tv (.sl (.st 1)) y.1)) (d1 := (y.2.1, y.2.2, ())) (E := (E130 L N)) (ts := [(.sl (.int .u8)), i64]) (tr := []) (rs := (.one (.sl (.st 1)))) (κ := (fun v d => (unR (.one (.sl (.st 1))) v).bind fun x => some (x, d.1, d.2.1))) (sound_of hΦ) okP (callI_sound (sound_of hΦ) okP 1 2000) (f := Try.f130) rfl hs ho hd0 hr hu ?_ (fun _ _ h => by obtain ⟨x, h1, h2⟩ := unR_bind h; obtain rfl := Option.some.inj h2; exact ⟨h1, rfl⟩) site
    exact (f130.b_eq L N (fun v d => (unR (.one (.sl (.st 1))) v).bind fun x => some (x, d.1, d.2.1)) d0.1 d0.2.1).trans (Eq.trans (b := f130.b L N (fun a0 a1 a2 => some (a0, a1, a2)) d0.1 d0.2.1) (by kernel_rfl) hy)
  · intro y hy
    cases hy
def Φ130 (L N : Nat) : Tells := (addT (Φ147 L N) 130 (f130.ent L N))
theorem Φ130_ok (L N : Nat) : TellsOk Try.prog (Φ130 L N) := addT_ok (Φ147_ok L N) (f130.ok L N (Φ147_ok L N))
def f131.b' {R : Type} (L N : Nat) (k : Tree → LI → Int → Option R) (c0 : LI) (c1 : Int) (x0 : Int) : Option R :=
  (f91 L N c0 c1 (4 : Int)).bind fun y0 =>
  (f147 L N N y0.2.1 y0.2.2 (wi ((1 : Int) + y0.1)) x0 false).bind fun y1 =>
  (f91 L N y1.2.1 y1.2.2 (24 : Int)).bind fun y2 =>
  bif (y2.1 == (0 : Int)) then
    k (Tree.mk ((Tree.mk y1.1.op (wi (y1.1.n + (7 : Int))) y1.1.parts).op) ((Tree.mk y1.1.op (wi (y1.1.n + (7 : Int))) y1.1.parts).n) ((Tree.mk y1.1.op (wi (y1.1.n + (7 : Int))) y1.1.parts).parts)) y2.2.1 y2.2.2
  else bif (y2.1 == (1 : Int)) then
    (f91 L N y2.2.1 y2.2.2 (8 : Int)).bind fun y3 =>
    k (Tree.mk ((Tree.mk y3.1 y1.1.n y1.1.parts).op) ((Tree.mk y3.1 y1.1.n y1.1.parts).n) ((Tree.mk y3.1 y1.1.n y1.1.parts).parts)) y3.2.1 y3.2.2
  else bif (y2.1 == (2 : Int)) then
    bif (decide (([(Tree.mk (0 : Int) (0 : Int) [])] : LT).length + y1.1.parts.length ≤ lim)) then
      k (Tree.mk y1.1.op y1.1.n (([(Tree.mk (0 : Int) (0 : Int) [])] : LT) ++ y1.1.parts)) y2.2.1 y2.2.2
    else none
  else k (Tree.mk ((Tree.mk y1.1.op y1.1.n y1.1.parts).op) ((Tree.mk y1.1.op y1.1.n y1.1.parts).n) ((Tree.mk y1.1.op y1.1.n y1.1.parts).parts)) y2.2.1 y2.2.2
def f131.b {R : Type} (L N : Nat) (k : Tree → LI → Int → Option R) (c0 : LI) (c1 : Int) (x0 : Int) : Option R :=
  f131.b' L N k c0 c1 x0
def f131 (L N : Nat) (c0 : LI) (c1 : Int) (x0 : Int) : Option (Tree × LI × Int) := f131.b L N (fun a0 a1 a2 => some (a0, a1, a2)) c0 c1 x0
def f131.ent (L N : Nat) (args : List AV) (vw : View) (site : Nat) : Ans := match boxD [(.sl (.int .u8)), i64] [i64] vw args with
  | some (o, d0, d, u) => ⟨Tree × LI × Int, f131 L N d0.1 d0.2.1 d.1, fun y => ((.tv (.st 1) y.1), u ++ [(o, some (.box [(.tv (.sl (.int .u8)) y.2.1), (.tv i64 y.2.2)]))], [])⟩
  | none => Ans.no
noncomputable def E131 (L N : Nat) : Env := { P := Try.prog, ty := tyOf, Φ := (Φ130 L N), inl := inlT, live := lives, liveX := livesX, L := L, dp := none, prom := promT, heal := healT, ren := renT }
theorem f131.b_eq {R : Type} (L N : Nat) (κ : AV → Dens [(.sl (.int .u8)), i64] → Option R) (c0 : LI) (c1 : Int) (x0 : Int) :
    evBody (E131 L N) (evCallI (E131 L N) 1 2000) 1000 131 Try.f131 [(.ptr 0 0), (.tv i64 x0)] [.ptr 0 0] [(0, (.box [(.tv (.sl (.int .u8)) c0), (.tv i64 c1)]))] (finM (.one (.st 1)) [(.sl (.int .u8)), i64] κ)
    = f131.b L N (fun a0 a1 a2 => κ (.tv (.st 1) a0) (a1, a2, ())) c0 c1 x0 := by kernel_rfl
theorem f131.ok (L N : Nat) (hΦ : TellsOk Try.prog ((Φ130 L N))) : EntOk Try.prog 131 (f131.ent L N) := by
  intro args vw site h
  unfold f131.ent
  split
  · rename_i o d0 d u ha
    intro y hy hs
    obtain ⟨rest, cs, rfl, ho, hd0, hr, hu⟩ := boxD_some ha
    refine call_box (y := y) (dep := 1000) (v' := (.tv (.st 1) y.1)) (d1 := (y.2.1, y.2.2, ())) (E := (E131 L N)) (ts := [(.sl (.int .u8)), i64]) (tr := [i64]) (rs := (.one (.st 1))) (κ := (fun v d => (unR (.one (.st 1)) v).bind fun x => some (x, d.1, d.2.1))) (sound_of hΦ) okP (callI_sound (sound_of hΦ) okP 1 2000) (f := Try.f131) rfl hs ho hd0 hr hu ?_ (fun _ _ h => by obtain ⟨x, h1, h2⟩ := unR_bind h; obtain rfl := Option.some.inj h2; exact ⟨h1, rfl⟩) site
    exact (f131.b_eq L N (fun v d => (unR (.one (.st 1)) v).bind fun x => some (x, d.1, d.2.1)) d0.1 d0.2.1 d.1).trans (Eq.trans (b := f131.b L N (fun a0 a1 a2 => some (a0, a1, a2)) d0.1 d0.2.1 d.1) (by kernel_rfl) hy)
  · intro y hy
    cases hy
def Φ131 (L N : Nat) : Tells := (addT (Φ130 L N) 131 (f131.ent L N))
theorem Φ131_ok (L N : Nat) : TellsOk Try.prog (Φ131 L N) := addT_ok (Φ130_ok L N) (f131.ok L N (Φ130_ok L N))
def f103.j0' {R : Type} (L N : Nat) (k : Tree → LT → LI → Int → Option R) (v3 : LT) (v4 : Bool) (v5 : LI) (v6 : Int) (v7 : Int) (v8 : Int) (v9 : Int) (v10 : Int) (v11 : LT) : Option R :=
  bif v4 then
    (f91 L N v5 v6 (v3.length : Int)).bind fun y12 =>
    k (Tree.mk (5 : Int) y12.1 []) v3 y12.2.1 y12.2.2
  else k (Tree.mk ((Tree.mk v9 v10 v11).op) ((Tree.mk v9 v10 v11).n) ((Tree.mk v9 v10 v11).parts)) v3 v5 v6
def f103.b' {R : Type} (L N : Nat) (k : Tree → LT → LI → Int → Option R) (c0 : LI) (c1 : Int) : Option R :=
  (f130 L N c0 c1).bind fun y0 =>
  (f131 L N y0.2.1 y0.2.2 (y0.1.length : Int)).bind fun y1 =>
  bif (decide ((y0.1.length : Int) > (0 : Int))) then
    (f91 L N y1.2.1 y1.2.2 (3 : Int)).bind fun y2 =>
    f103.j0' L N k y0.1 (y2.1 == (0 : Int)) y2.2.1 y2.2.2 (0 : Int) (0 : Int) y1.1.op y1.1.n y1.1.parts
  else f103.j0' L N k y0.1 false y1.2.1 y1.2.2 (0 : Int) (0 : Int) y1.1.op y1.1.n y1.1.parts
def f103.b {R : Type} (L N : Nat) (k : Tree → LT → LI → Int → Option R) (c0 : LI) (c1 : Int) : Option R :=
  f103.b' L N k c0 c1
def f103 (L N : Nat) (c0 : LI) (c1 : Int) : Option (Tree × LT × LI × Int) := f103.b L N (fun a0 a1 a2 a3 => some (a0, a1, a2, a3)) c0 c1
def f103.ent (L N : Nat) (args : List AV) (vw : View) (site : Nat) : Ans := match boxD [(.sl (.int .u8)), i64] [] vw args with
  | some (o, d0, d, u) => ⟨Tree × LT × LI × Int, f103 L N d0.1 d0.2.1, fun y => ((.tup [(.tv (.st 1) y.1), (.tv (.sl (.st 1)) y.2.1)]), u ++ [(o, some (.box [(.tv (.sl (.int .u8)) y.2.2.1), (.tv i64 y.2.2.2)]))], [])⟩
  | none => Ans.no
noncomputable def E103 (L N : Nat) : Env := { P := Try.prog, ty := tyOf, Φ := (Φ131 L N), inl := inlT, live := lives, liveX := livesX, L := L, dp := none, prom := promT, heal := healT, ren := renT }
theorem f103.b_eq {R : Type} (L N : Nat) (κ : AV → Dens [(.sl (.int .u8)), i64] → Option R) (c0 : LI) (c1 : Int) :
    evBody (E103 L N) (evCallI (E103 L N) 1 2000) 1000 103 Try.f103 [(.ptr 0 0)] [.ptr 0 0] [(0, (.box [(.tv (.sl (.int .u8)) c0), (.tv i64 c1)]))] (finM (.many [(.st 1), (.sl (.st 1))]) [(.sl (.int .u8)), i64] κ)
    = f103.b L N (fun a0 a1 a2 a3 => κ (.tup [(.tv (.st 1) a0), (.tv (.sl (.st 1)) a1)]) (a2, a3, ())) c0 c1 := by kernel_rfl
theorem f103.ok (L N : Nat) (hΦ : TellsOk Try.prog ((Φ131 L N))) : EntOk Try.prog 103 (f103.ent L N) := by
  intro args vw site h
  unfold f103.ent
  split
  · rename_i o d0 d u ha
    intro y hy hs
    obtain ⟨rest, cs, rfl, ho, hd0, hr, hu⟩ := boxD_some ha
    refine call_box (y := y) (dep := 1000) (v' := (.tup [(.tv (.st 1) y.1), (.tv (.sl (.st 1)) y.2.1)])) (d1 := (y.2.2.1, y.2.2.2, ())) (E := (E103 L N)) (ts := [(.sl (.int .u8)), i64]) (tr := []) (rs := (.many [(.st 1), (.sl (.st 1))])) (κ := (fun v d => (unR (.many [(.st 1), (.sl (.st 1))]) v).bind fun x => some (x.1, x.2, d.1, d.2.1))) (sound_of hΦ) okP (callI_sound (sound_of hΦ) okP 1 2000) (f := Try.f103) rfl hs ho hd0 hr hu ?_ (fun _ _ h => by obtain ⟨x, h1, h2⟩ := unR_bind h; obtain rfl := Option.some.inj h2; exact ⟨h1, rfl⟩) site
    exact (f103.b_eq L N (fun v d => (unR (.many [(.st 1), (.sl (.st 1))]) v).bind fun x => some (x.1, x.2, d.1, d.2.1)) d0.1 d0.2.1).trans (Eq.trans (b := f103.b L N (fun a0 a1 a2 a3 => some (a0, a1, a2, a3)) d0.1 d0.2.1) (by kernel_rfl) hy)
  · intro y hy
    cases hy
def Φ103 (L N : Nat) : Tells := (addT (Φ131 L N) 103 (f103.ent L N))
theorem Φ103_ok (L N : Nat) : TellsOk Try.prog (Φ103 L N) := addT_ok (Φ131_ok L N) (f103.ok L N (Φ131_ok L N))
def f158.j0' {R : Type} (L N : Nat) (self158 : Tree → Bool → Option (Int)) (k0_e0 : Int → Option R) (rec0 : Bool → Int → Int → Int → Int → LT → Option R) (v14 : Bool) (v15 : Int) (v16 : Int) (v17 : Int) (v18 : Int) (v19 : LT) : Option R :=
  bif (decide (0 ≤ v16) && decide (v16 < (v19.length : Int))) then
    (self158 (listAt v19 (Ty.dflt (.st 1)) v16.toNat) v14).bind fun y20 =>
    rec0 v14 (bif decide (y20 > v15) then y20 else v15) (wi (v16 + (1 : Int))) v17 v18 v19
  else none
end Go.Proofs.Ytdfjdbpklbehoaa.Ev
