/- The seat's functions as plain functions, continued: made by program (wip/gen/gen.py). -/
import Derived.Test.YtffkhhblppfbfaaGreatGX4a
namespace Go.Proofs.YtffkhhblppfbfaaGreat.Ev
open Go
set_option linter.unusedVariables false
set_option maxRecDepth 20000
theorem f82.ok (L N m : Nat) (hΦ : TellsOk Tryz.prog (Φ82s L N m)) : EntOk Tryz.prog 82 (f82.ent L N (m + 1)) := entRo_ok (E := (E82 L N m)) (dep := 1000) (f := Tryz.f82) (sound_of hΦ) okP (callI_sound (sound_of hΦ) okP 0 1000) rfl rfl fun d _ hy => (f82.b_eq L N m (unR (.one .str)) d.1).trans (Eq.trans (b := f82.b L N (f82 L N m) some d.1) (by kernel_rfl) hy)
theorem Φ82s_ok (L N : Nat) : ∀ m, TellsOk Tryz.prog (Φ82s L N m) := by
  intro m
  induction m with
  | zero => exact (addT_ok (Φ105_ok L N) (entRo_no fun _ => rfl))
  | succ m ih => exact (addT_ok (Φ105_ok L N) (f82.ok L N m ih))
def Φ82 (L N : Nat) : Tells := (addT (Φ105 L N) 82 (f82.ent L N N))
theorem Φ82_ok (L N : Nat) : TellsOk Tryz.prog (Φ82 L N) := Φ82s_ok L N N
def f83.s0' {R : Type} (L N : Nat) (self83 : Tree → LT → Option (LS)) (k0_e1 : Int → Int → LT → LS → LS → LS → Option R) (rec0 : Int → Int → Int → LT → LS → LS → LS → Option R) (s4 : Int) (s5 : Int) (s6 : Int) (s7 : LT) (s8 : LS) (s9 : LS) (s10 : LS) : Option R :=
  bif (decide (s4 < (s9.length : Int))) then
    bif (decide (0 ≤ s4) && decide (s4 < (s9.length : Int))) then
      bif (decide (0 ≤ s4) && decide (s4 < (s9.length : Int))) then
        bif (decide (0 ≤ (1 : Int)) && decide ((1 : Int) < (s7.length : Int))) then
          bif (decide (s8.length + ([(Step.mk ((listAt s9 (Ty.dflt (.st 3)) s4.toNat).act) (Tree.mk (3 : Int) (0 : Int) ([(Tree.mk ((listAt s9 (Ty.dflt (.st 3)) s4.toNat).thn.op) ((listAt s9 (Ty.dflt (.st 3)) s4.toNat).thn.n) ((listAt s9 (Ty.dflt (.st 3)) s4.toNat).thn.parts)), (listAt s7 (Ty.dflt (.st 1)) (1 : Int).toNat)] : LT)))] : LS).length ≤ lim)) then
            rec0 (wi (s4 + (1 : Int))) s5 s6 s7 (s8 ++ ([(Step.mk ((listAt s9 (Ty.dflt (.st 3)) s4.toNat).act) (Tree.mk (3 : Int) (0 : Int) ([(Tree.mk ((listAt s9 (Ty.dflt (.st 3)) s4.toNat).thn.op) ((listAt s9 (Ty.dflt (.st 3)) s4.toNat).thn.n) ((listAt s9 (Ty.dflt (.st 3)) s4.toNat).thn.parts)), (listAt s7 (Ty.dflt (.st 1)) (1 : Int).toNat)] : LT)))] : LS)) s9 s10
          else none
        else none
      else none
    else none
  else k0_e1 s5 s6 s7 s8 s9 s10
def f83.s0 {R : Type} (L N : Nat) (self83 : Tree → LT → Option (LS)) (k0_e1 : Int → Int → LT → LS → LS → LS → Option R) (rec0 : Int → Int → Int → LT → LS → LS → LS → Option R) (s4 : Int) (s5 : Int) (s6 : Int) (s7 : LT) (s8 : LS) (s9 : LS) (s10 : LS) : Option R :=
  f83.s0' L N self83 k0_e1 rec0 s4 s5 s6 s7 s8 s9 s10
def f83.l0 {R : Type} (L N : Nat) (self83 : Tree → LT → Option (LS)) (k0_e1 : Int → Int → LT → LS → LS → LS → Option R) : Nat → Int → Int → Int → LT → LS → LS → LS → Option R
  | 0, _, _, _, _, _, _, _ => none
  | n + 1, s4, s5, s6, s7, s8, s9, s10 => f83.s0 L N self83 k0_e1 (f83.l0 L N self83 k0_e1 n) s4 s5 s6 s7 s8 s9 s10
def f83.T0 (s4 : Int) (s5 : Int) (s6 : Int) (s7 : LT) (s8 : LS) (s9 : LS) (s10 : LS) : T := mkT 217 [(2, (.ptr 1002 0)), (5, (.row 1014)), (6, (.row 1051)), (7, (.row 1057)), (8, (.tv i64 s4))]
def f83.H0 (s4 : Int) (s5 : Int) (s6 : Int) (s7 : LT) (s8 : LS) (s9 : LS) (s10 : LS) : H := [(1002, (.box [(.tv i64 s5), (.tv i64 s6), (.tv (.sl (.st 1)) s7)])), (1014, (.row 106 (.st 3) s8)), (1051, (.row 106 (.st 3) s9)), (1057, (.row 106 (.st 3) s10))]
def f83.T0_e1 (z11 : Int) (z12 : Int) (z13 : LT) (z14 : LS) (z15 : LS) (z16 : LS) : T := mkT 217 [(2, (.ptr 1002 0)), (5, (.row 1014)), (6, (.row 1051)), (7, (.row 1057))]
def f83.H0_e1 (z11 : Int) (z12 : Int) (z13 : LT) (z14 : LS) (z15 : LS) (z16 : LS) : H := [(1002, (.box [(.tv i64 z11), (.tv i64 z12), (.tv (.sl (.st 1)) z13)])), (1014, (.row 106 (.st 3) z14)), (1051, (.row 106 (.st 3) z15)), (1057, (.row 106 (.st 3) z16))]
def f83.s1' {R : Type} (L N : Nat) (self83 : Tree → LT → Option (LS)) (k1_e3 : LS → LS → LS → Option R) (rec1 : Int → Int → Int → LT → LS → LS → LS → Option R) (s17 : Int) (s18 : Int) (s19 : Int) (s20 : LT) (s21 : LS) (s22 : LS) (s23 : LS) : Option R :=
  bif (decide (s17 < (s23.length : Int))) then
    bif (decide (0 ≤ s17) && decide (s17 < (s23.length : Int))) then
      bif (decide (0 ≤ (0 : Int)) && decide ((0 : Int) < (s20.length : Int))) then
        bif (decide (0 ≤ s17) && decide (s17 < (s23.length : Int))) then
          bif (decide (s21.length + ([(Step.mk ((listAt s23 (Ty.dflt (.st 3)) s17.toNat).act) (Tree.mk (3 : Int) (0 : Int) ([(listAt s20 (Ty.dflt (.st 1)) (0 : Int).toNat), (Tree.mk ((listAt s23 (Ty.dflt (.st 3)) s17.toNat).thn.op) ((listAt s23 (Ty.dflt (.st 3)) s17.toNat).thn.n) ((listAt s23 (Ty.dflt (.st 3)) s17.toNat).thn.parts))] : LT)))] : LS).length ≤ lim)) then
            rec1 (wi (s17 + (1 : Int))) s18 s19 s20 (s21 ++ ([(Step.mk ((listAt s23 (Ty.dflt (.st 3)) s17.toNat).act) (Tree.mk (3 : Int) (0 : Int) ([(listAt s20 (Ty.dflt (.st 1)) (0 : Int).toNat), (Tree.mk ((listAt s23 (Ty.dflt (.st 3)) s17.toNat).thn.op) ((listAt s23 (Ty.dflt (.st 3)) s17.toNat).thn.n) ((listAt s23 (Ty.dflt (.st 3)) s17.toNat).thn.parts))] : LT)))] : LS)) s22 s23
          else none
        else none
      else none
    else none
  else k1_e3 s21 s22 s23
def f83.s1 {R : Type} (L N : Nat) (self83 : Tree → LT → Option (LS)) (k1_e3 : LS → LS → LS → Option R) (rec1 : Int → Int → Int → LT → LS → LS → LS → Option R) (s17 : Int) (s18 : Int) (s19 : Int) (s20 : LT) (s21 : LS) (s22 : LS) (s23 : LS) : Option R :=
  f83.s1' L N self83 k1_e3 rec1 s17 s18 s19 s20 s21 s22 s23
def f83.l1 {R : Type} (L N : Nat) (self83 : Tree → LT → Option (LS)) (k1_e3 : LS → LS → LS → Option R) : Nat → Int → Int → Int → LT → LS → LS → LS → Option R
  | 0, _, _, _, _, _, _, _ => none
  | n + 1, s17, s18, s19, s20, s21, s22, s23 => f83.s1 L N self83 k1_e3 (f83.l1 L N self83 k1_e3 n) s17 s18 s19 s20 s21 s22 s23
def f83.T1 (s17 : Int) (s18 : Int) (s19 : Int) (s20 : LT) (s21 : LS) (s22 : LS) (s23 : LS) : T := mkT 217 [(2, (.ptr 1002 0)), (5, (.row 1014)), (6, (.row 1051)), (7, (.row 1057)), (9, (.tv i64 s17))]
def f83.H1 (s17 : Int) (s18 : Int) (s19 : Int) (s20 : LT) (s21 : LS) (s22 : LS) (s23 : LS) : H := [(1002, (.box [(.tv i64 s18), (.tv i64 s19), (.tv (.sl (.st 1)) s20)])), (1014, (.row 106 (.st 3) s21)), (1051, (.row 106 (.st 3) s22)), (1057, (.row 106 (.st 3) s23))]
def f83.T1_e3 (z24 : LS) (z25 : LS) (z26 : LS) : T := mkT 217 [(5, (.row 1014)), (6, (.row 1051)), (7, (.row 1057))]
def f83.H1_e3 (z24 : LS) (z25 : LS) (z26 : LS) : H := [(1014, (.row 106 (.st 3) z24)), (1051, (.row 106 (.st 3) z25)), (1057, (.row 106 (.st 3) z26))]
def f83.j0' {R : Type} (L N : Nat) (self83 : Tree → LT → Option (LS)) (k3_e7 : Int → LS → LS → LS → Option R) (rec3 : Int → Int → LS → LS → LS → Option R) (v41 : Int) (v42 : Int) (v43 : Bool) (v44 : LS) (v45 : LS) (v46 : LS) : Option R :=
  bif v43 then
    bif (decide (0 ≤ v41) && decide (v41 < (v45.length : Int))) then
      bif (decide (0 ≤ v42) && decide (v42 < (v46.length : Int))) then
        bif (decide (v44.length + ([(Step.mk (0 : Int) (Tree.mk (3 : Int) (0 : Int) ([(Tree.mk ((listAt v45 (Ty.dflt (.st 3)) v41.toNat).thn.op) ((listAt v45 (Ty.dflt (.st 3)) v41.toNat).thn.n) ((listAt v45 (Ty.dflt (.st 3)) v41.toNat).thn.parts)), (Tree.mk ((listAt v46 (Ty.dflt (.st 3)) v42.toNat).thn.op) ((listAt v46 (Ty.dflt (.st 3)) v42.toNat).thn.n) ((listAt v46 (Ty.dflt (.st 3)) v42.toNat).thn.parts))] : LT)))] : LS).length ≤ lim)) then
          rec3 v41 (wi (v42 + (1 : Int))) (v44 ++ ([(Step.mk (0 : Int) (Tree.mk (3 : Int) (0 : Int) ([(Tree.mk ((listAt v45 (Ty.dflt (.st 3)) v41.toNat).thn.op) ((listAt v45 (Ty.dflt (.st 3)) v41.toNat).thn.n) ((listAt v45 (Ty.dflt (.st 3)) v41.toNat).thn.parts)), (Tree.mk ((listAt v46 (Ty.dflt (.st 3)) v42.toNat).thn.op) ((listAt v46 (Ty.dflt (.st 3)) v42.toNat).thn.n) ((listAt v46 (Ty.dflt (.st 3)) v42.toNat).thn.parts))] : LT)))] : LS)) v45 v46
        else none
      else none
    else none
  else rec3 v41 (wi (v42 + (1 : Int))) v44 v45 v46
def f83.s3' {R : Type} (L N : Nat) (self83 : Tree → LT → Option (LS)) (k3_e7 : Int → LS → LS → LS → Option R) (rec3 : Int → Int → LS → LS → LS → Option R) (s32 : Int) (s33 : Int) (s34 : LS) (s35 : LS) (s36 : LS) : Option R :=
  bif (decide (s33 < (s36.length : Int))) then
    bif (decide (0 ≤ s32) && decide (s32 < (s35.length : Int))) then
      bif ((listAt s35 (Ty.dflt (.st 3)) s32.toNat).act != (0 : Int)) then
        bif (decide (0 ≤ s32) && decide (s32 < (s35.length : Int))) then
          bif (decide (0 ≤ s33) && decide (s33 < (s36.length : Int))) then
            f83.j0' L N self83 k3_e7 rec3 s32 s33 ((listAt s35 (Ty.dflt (.st 3)) s32.toNat).act == (wi (0 - (listAt s36 (Ty.dflt (.st 3)) s33.toNat).act))) s34 s35 s36
          else none
        else none
      else f83.j0' L N self83 k3_e7 rec3 s32 s33 false s34 s35 s36
    else none
  else k3_e7 s32 s34 s35 s36
def f83.s3 {R : Type} (L N : Nat) (self83 : Tree → LT → Option (LS)) (k3_e7 : Int → LS → LS → LS → Option R) (rec3 : Int → Int → LS → LS → LS → Option R) (s32 : Int) (s33 : Int) (s34 : LS) (s35 : LS) (s36 : LS) : Option R :=
  f83.s3' L N self83 k3_e7 rec3 s32 s33 s34 s35 s36
def f83.l3 {R : Type} (L N : Nat) (self83 : Tree → LT → Option (LS)) (k3_e7 : Int → LS → LS → LS → Option R) : Nat → Int → Int → LS → LS → LS → Option R
  | 0, _, _, _, _, _ => none
  | n + 1, s32, s33, s34, s35, s36 => f83.s3 L N self83 k3_e7 (f83.l3 L N self83 k3_e7 n) s32 s33 s34 s35 s36
def f83.T3 (s32 : Int) (s33 : Int) (s34 : LS) (s35 : LS) (s36 : LS) : T := mkT 217 [(5, (.row 1014)), (6, (.row 1051)), (7, (.row 1057)), (10, (.tv i64 s32)), (11, (.tv i64 s33))]
def f83.H3 (s32 : Int) (s33 : Int) (s34 : LS) (s35 : LS) (s36 : LS) : H := [(1014, (.row 106 (.st 3) s34)), (1051, (.row 106 (.st 3) s35)), (1057, (.row 106 (.st 3) s36))]
def f83.T3_e7 (z37 : Int) (z38 : LS) (z39 : LS) (z40 : LS) : T := mkT 217 [(5, (.row 1014)), (6, (.row 1051)), (7, (.row 1057)), (10, (.tv i64 z37))]
def f83.H3_e7 (z37 : Int) (z38 : LS) (z39 : LS) (z40 : LS) : H := [(1014, (.row 106 (.st 3) z38)), (1051, (.row 106 (.st 3) z39)), (1057, (.row 106 (.st 3) z40))]
def f83.p3_e7' {R : Type} (L N : Nat) (self83 : Tree → LT → Option (LS)) (k2_e5 : LS → Option R) (rec2 : Int → LS → LS → LS → Option R) (z37 : Int) (z38 : LS) (z39 : LS) (z40 : LS) : Option R :=
  rec2 (wi (z37 + (1 : Int))) z38 z39 z40
def f83.p3_e7 {R : Type} (L N : Nat) (self83 : Tree → LT → Option (LS)) (k2_e5 : LS → Option R) (rec2 : Int → LS → LS → LS → Option R) (z37 : Int) (z38 : LS) (z39 : LS) (z40 : LS) : Option R :=
  f83.p3_e7' L N self83 k2_e5 rec2 z37 z38 z39 z40
def f83.s2' {R : Type} (L N : Nat) (self83 : Tree → LT → Option (LS)) (k2_e5 : LS → Option R) (rec2 : Int → LS → LS → LS → Option R) (w3 : Int → Int → LS → LS → LS → Option R) (s27 : Int) (s28 : LS) (s29 : LS) (s30 : LS) : Option R :=
  bif (decide (s27 < (s29.length : Int))) then
    w3 s27 (0 : Int) s28 s29 s30
  else k2_e5 s28
def f83.s2 {R : Type} (L N : Nat) (self83 : Tree → LT → Option (LS)) (k2_e5 : LS → Option R) (rec2 : Int → LS → LS → LS → Option R) (s27 : Int) (s28 : LS) (s29 : LS) (s30 : LS) : Option R :=
  f83.s2' L N self83 k2_e5 rec2 (fun s32 s33 s34 s35 s36 => f83.l3 L N self83 (fun z37 z38 z39 z40 => f83.p3_e7 L N self83 k2_e5 rec2 z37 z38 z39 z40) L s32 s33 s34 s35 s36) s27 s28 s29 s30
def f83.l2 {R : Type} (L N : Nat) (self83 : Tree → LT → Option (LS)) (k2_e5 : LS → Option R) : Nat → Int → LS → LS → LS → Option R
  | 0, _, _, _, _ => none
  | n + 1, s27, s28, s29, s30 => f83.s2 L N self83 k2_e5 (f83.l2 L N self83 k2_e5 n) s27 s28 s29 s30
def f83.T2 (s27 : Int) (s28 : LS) (s29 : LS) (s30 : LS) : T := mkT 217 [(5, (.row 1014)), (6, (.row 1051)), (7, (.row 1057)), (10, (.tv i64 s27))]
def f83.H2 (s27 : Int) (s28 : LS) (s29 : LS) (s30 : LS) : H := [(1014, (.row 106 (.st 3) s28)), (1051, (.row 106 (.st 3) s29)), (1057, (.row 106 (.st 3) s30))]
def f83.T2_e5 (z31 : LS) : T := mkT 217 [(5, (.row 1014))]
def f83.H2_e5 (z31 : LS) : H := [(1014, (.row 106 (.st 3) z31))]
def f83.p2_e5' {R : Type} (L N : Nat) (self83 : Tree → LT → Option (LS)) (k : LS → Option R) (z31 : LS) : Option R :=
  k z31
def f83.p2_e5 {R : Type} (L N : Nat) (self83 : Tree → LT → Option (LS)) (k : LS → Option R) (z31 : LS) : Option R :=
  f83.p2_e5' L N self83 k z31
def f83.p1_e3' {R : Type} (L N : Nat) (self83 : Tree → LT → Option (LS)) (k : LS → Option R) (w2 : Int → LS → LS → LS → Option R) (z24 : LS) (z25 : LS) (z26 : LS) : Option R :=
  w2 (0 : Int) z24 z25 z26
def f83.p1_e3 {R : Type} (L N : Nat) (self83 : Tree → LT → Option (LS)) (k : LS → Option R) (z24 : LS) (z25 : LS) (z26 : LS) : Option R :=
  f83.p1_e3' L N self83 k (fun s27 s28 s29 s30 => f83.l2 L N self83 (fun z31 => f83.p2_e5 L N self83 k z31) L s27 s28 s29 s30) z24 z25 z26
def f83.p0_e1' {R : Type} (L N : Nat) (self83 : Tree → LT → Option (LS)) (k : LS → Option R) (w1 : Int → Int → Int → LT → LS → LS → LS → Option R) (z11 : Int) (z12 : Int) (z13 : LT) (z14 : LS) (z15 : LS) (z16 : LS) : Option R :=
  w1 (0 : Int) z11 z12 z13 z14 z15 z16
def f83.p0_e1 {R : Type} (L N : Nat) (self83 : Tree → LT → Option (LS)) (k : LS → Option R) (z11 : Int) (z12 : Int) (z13 : LT) (z14 : LS) (z15 : LS) (z16 : LS) : Option R :=
  f83.p0_e1' L N self83 k (fun s17 s18 s19 s20 s21 s22 s23 => f83.l1 L N self83 (fun z24 z25 z26 => f83.p1_e3 L N self83 k z24 z25 z26) L s17 s18 s19 s20 s21 s22 s23) z11 z12 z13 z14 z15 z16
def f83.j1' {R : Type} (L N : Nat) (self83 : Tree → LT → Option (LS)) (k4_e9 : LS → Option R) (rec4 : Int → Int → Int → LT → LS → LS → Option R) (v61 : Int) (v62 : Bool) (v63 : Int) (v64 : Int) (v65 : LT) (v66 : LS) (v67 : LS) : Option R :=
  bif v62 then
    bif (decide (0 ≤ v61) && decide (v61 < (v67.length : Int))) then
      bif (decide (0 ≤ v61) && decide (v61 < (v67.length : Int))) then
        bif (decide (v66.length + ([(Step.mk ((listAt v67 (Ty.dflt (.st 3)) v61.toNat).act) (Tree.mk (4 : Int) v64 ([(Tree.mk ((listAt v67 (Ty.dflt (.st 3)) v61.toNat).thn.op) ((listAt v67 (Ty.dflt (.st 3)) v61.toNat).thn.n) ((listAt v67 (Ty.dflt (.st 3)) v61.toNat).thn.parts))] : LT)))] : LS).length ≤ lim)) then
          rec4 (wi (v61 + (1 : Int))) v63 v64 v65 (v66 ++ ([(Step.mk ((listAt v67 (Ty.dflt (.st 3)) v61.toNat).act) (Tree.mk (4 : Int) v64 ([(Tree.mk ((listAt v67 (Ty.dflt (.st 3)) v61.toNat).thn.op) ((listAt v67 (Ty.dflt (.st 3)) v61.toNat).thn.n) ((listAt v67 (Ty.dflt (.st 3)) v61.toNat).thn.parts))] : LT)))] : LS)) v67
        else none
      else none
    else none
  else rec4 (wi (v61 + (1 : Int))) v63 v64 v65 v66 v67
def f83.s4' {R : Type} (L N : Nat) (self83 : Tree → LT → Option (LS)) (k4_e9 : LS → Option R) (rec4 : Int → Int → Int → LT → LS → LS → Option R) (s53 : Int) (s54 : Int) (s55 : Int) (s56 : LT) (s57 : LS) (s58 : LS) : Option R :=
  bif (decide (s53 < (s58.length : Int))) then
    bif (decide (0 ≤ s53) && decide (s53 < (s58.length : Int))) then
      bif ((listAt s58 (Ty.dflt (.st 3)) s53.toNat).act == (0 : Int)) then
        f83.j1' L N self83 k4_e9 rec4 s53 true s54 s55 s56 s57 s58
      else bif (decide (0 ≤ s53) && decide (s53 < (s58.length : Int))) then
        (f106 L N ((listAt s58 (Ty.dflt (.st 3)) s53.toNat).act)).bind fun y60 =>
        f83.j1' L N self83 k4_e9 rec4 s53 (y60 != s55) s54 s55 s56 s57 s58
      else none
    else none
  else k4_e9 s57
def f83.s4 {R : Type} (L N : Nat) (self83 : Tree → LT → Option (LS)) (k4_e9 : LS → Option R) (rec4 : Int → Int → Int → LT → LS → LS → Option R) (s53 : Int) (s54 : Int) (s55 : Int) (s56 : LT) (s57 : LS) (s58 : LS) : Option R :=
  f83.s4' L N self83 k4_e9 rec4 s53 s54 s55 s56 s57 s58
def f83.l4 {R : Type} (L N : Nat) (self83 : Tree → LT → Option (LS)) (k4_e9 : LS → Option R) : Nat → Int → Int → Int → LT → LS → LS → Option R
  | 0, _, _, _, _, _, _ => none
  | n + 1, s53, s54, s55, s56, s57, s58 => f83.s4 L N self83 k4_e9 (f83.l4 L N self83 k4_e9 n) s53 s54 s55 s56 s57 s58
def f83.T4 (s53 : Int) (s54 : Int) (s55 : Int) (s56 : LT) (s57 : LS) (s58 : LS) : T := mkT 217 [(2, (.ptr 1002 0)), (5, (.row 1014)), (12, (.row 1165)), (13, (.tv i64 s53))]
def f83.H4 (s53 : Int) (s54 : Int) (s55 : Int) (s56 : LT) (s57 : LS) (s58 : LS) : H := [(1002, (.box [(.tv i64 s54), (.tv i64 s55), (.tv (.sl (.st 1)) s56)])), (1014, (.row 106 (.st 3) s57)), (1165, (.row 106 (.st 3) s58))]
def f83.T4_e9 (z59 : LS) : T := mkT 217 [(5, (.row 1014))]
def f83.H4_e9 (z59 : LS) : H := [(1014, (.row 106 (.st 3) z59))]
def f83.p4_e9' {R : Type} (L N : Nat) (self83 : Tree → LT → Option (LS)) (k : LS → Option R) (z59 : LS) : Option R :=
  k z59
def f83.p4_e9 {R : Type} (L N : Nat) (self83 : Tree → LT → Option (LS)) (k : LS → Option R) (z59 : LS) : Option R :=
  f83.p4_e9' L N self83 k z59
def f83.b' {R : Type} (L N : Nat) (self83 : Tree → LT → Option (LS)) (k : LS → Option R) (w0 : Int → Int → Int → LT → LS → LS → LS → Option R) (w4 : Int → Int → Int → LT → LS → LS → Option R) (x0 : Tree) (x1 : LT) : Option R :=
  bif (x0.op == (1 : Int)) then
    bif (decide (0 ≤ (0 : Int)) && decide ((0 : Int) < (x0.parts.length : Int))) then
      bif (decide (([] : LS).length + ([(Step.mk x0.n (Tree.mk ((listAt x0.parts (Ty.dflt (.st 1)) (0 : Int).toNat).op) ((listAt x0.parts (Ty.dflt (.st 1)) (0 : Int).toNat).n) ((listAt x0.parts (Ty.dflt (.st 1)) (0 : Int).toNat).parts)))] : LS).length ≤ lim)) then
        k (([] : LS) ++ ([(Step.mk x0.n (Tree.mk ((listAt x0.parts (Ty.dflt (.st 1)) (0 : Int).toNat).op) ((listAt x0.parts (Ty.dflt (.st 1)) (0 : Int).toNat).n) ((listAt x0.parts (Ty.dflt (.st 1)) (0 : Int).toNat).parts)))] : LS))
      else none
    else none
  else bif (x0.op == (2 : Int)) then
    bif (decide (0 ≤ (0 : Int)) && decide ((0 : Int) < (x0.parts.length : Int))) then
      (self83 (listAt x0.parts (Ty.dflt (.st 1)) (0 : Int).toNat) x1).bind fun y0 =>
      bif (decide (0 ≤ (1 : Int)) && decide ((1 : Int) < (x0.parts.length : Int))) then
        (self83 (listAt x0.parts (Ty.dflt (.st 1)) (1 : Int).toNat) x1).bind fun y1 =>
        bif (decide (y0.length + y1.length ≤ lim)) then
          k (y0 ++ y1)
        else none
      else none
    else none
  else bif (x0.op == (3 : Int)) then
    bif (decide (0 ≤ (0 : Int)) && decide ((0 : Int) < (x0.parts.length : Int))) then
      (self83 (listAt x0.parts (Ty.dflt (.st 1)) (0 : Int).toNat) x1).bind fun y2 =>
      bif (decide (0 ≤ (1 : Int)) && decide ((1 : Int) < (x0.parts.length : Int))) then
        (self83 (listAt x0.parts (Ty.dflt (.st 1)) (1 : Int).toNat) x1).bind fun y3 =>
        w0 (0 : Int) x0.op x0.n x0.parts ([] : LS) y2 y3
      else none
    else none
  else bif (x0.op == (4 : Int)) then
    bif (decide (0 ≤ (0 : Int)) && decide ((0 : Int) < (x0.parts.length : Int))) then
      (self83 (listAt x0.parts (Ty.dflt (.st 1)) (0 : Int).toNat) x1).bind fun y52 =>
      w4 (0 : Int) x0.op x0.n x0.parts ([] : LS) y52
    else none
  else bif (x0.op == (5 : Int)) then
    bif (decide (0 ≤ x0.n) && decide (x0.n < (x1.length : Int))) then
      (self83 (listAt x1 (Ty.dflt (.st 1)) x0.n.toNat) x1).bind fun y74 =>
      k y74
    else none
  else k ([] : LS)
def f83.b {R : Type} (L N : Nat) (self83 : Tree → LT → Option (LS)) (k : LS → Option R) (x0 : Tree) (x1 : LT) : Option R :=
  f83.b' L N self83 k (fun s4 s5 s6 s7 s8 s9 s10 => f83.l0 L N self83 (fun z11 z12 z13 z14 z15 z16 => f83.p0_e1 L N self83 k z11 z12 z13 z14 z15 z16) L s4 s5 s6 s7 s8 s9 s10) (fun s53 s54 s55 s56 s57 s58 => f83.l4 L N self83 (fun z59 => f83.p4_e9 L N self83 k z59) L s53 s54 s55 s56 s57 s58) x0 x1
def f83 (L N : Nat) : Nat → Tree → LT → Option (LS)
  | 0, _, _ => none
  | n + 1, x0, x1 => f83.b L N (f83 L N n) some x0 x1
def f83.ent (L N m : Nat) (args : List AV) (vw : View) (site : Nat) : Ans := match coeD [(.st 1), (.sl (.st 1))] vw args with
  | some (d, u) => ⟨LS, f83 L N m d.1 d.2.1, fun y => (.row site, u ++ [(site, some (.row 106 (.st 3) y))], [])⟩
  | none => Ans.no
def Φ83s (L N m : Nat) : Tells := (addT (Φ82 L N) 83 (f83.ent L N m))
noncomputable def E83 (L N m : Nat) : Env := { P := Tryz.prog, ty := tyOf, Φ := Φ83s L N m, inl := inlT, live := lives, liveX := livesX, L := L, dp := none, prom := promT, heal := healT, ren := renT }
noncomputable def f83.c0 : Code := loopAt 1 (codeOf Tryz.f83)
def f83.X0_e1 {R : Type} (κ : KX R) := fun z11 z12 z13 z14 z15 z16 => κ (.exit 1) (f83.T0_e1 z11 z12 z13 z14 z15 z16) (f83.H0_e1 z11 z12 z13 z14 z15 z16)
def f83.R0 {R : Type} (rec : KT R) := fun s4 s5 s6 s7 s8 s9 s10 => rec (f83.T0 s4 s5 s6 s7 s8 s9 s10) (f83.H0 s4 s5 s6 s7 s8 s9 s10)
theorem f83.s0_eq {R : Type} (L N m : Nat) (κ : KX R) (rec : KT R) (s4 : Int) (s5 : Int) (s6 : Int) (s7 : LT) (s8 : LS) (s9 : LS) (s10 : LS) :
    evRd (E83 L N m) (evCallI (E83 L N m) 0 1000) 1000 83 217 1 f83.c0 κ rec (f83.T0 s4 s5 s6 s7 s8 s9 s10) (f83.H0 s4 s5 s6 s7 s8 s9 s10)
    = f83.s0 L N (f83 L N m) (f83.X0_e1 κ) (f83.R0 rec) s4 s5 s6 s7 s8 s9 s10 := by kernel_rfl
theorem f83.l0_eq {R : Type} (L N m : Nat) (κ : KX R) : ∀ (n : Nat) (s4 : Int) (s5 : Int) (s6 : Int) (s7 : LT) (s8 : LS) (s9 : LS) (s10 : LS),
    evLp (E83 L N m) (evCallI (E83 L N m) 0 1000) 1000 83 217 1 f83.c0 κ n (f83.T0 s4 s5 s6 s7 s8 s9 s10) (f83.H0 s4 s5 s6 s7 s8 s9 s10)
    = f83.l0 L N (f83 L N m) (f83.X0_e1 κ) n s4 s5 s6 s7 s8 s9 s10 := by
  intro n
  induction n with
  | zero => intros; rfl
  | succ n ih =>
    intro s4 s5 s6 s7 s8 s9 s10
    rw [evLp_succ, f83.s0_eq]
    delta f83.R0
    simp only [ih]
    rfl
noncomputable def f83.c1 : Code := loopAt 3 (codeOf Tryz.f83)
def f83.X1_e3 {R : Type} (κ : KX R) := fun z24 z25 z26 => κ (.exit 3) (f83.T1_e3 z24 z25 z26) (f83.H1_e3 z24 z25 z26)
def f83.R1 {R : Type} (rec : KT R) := fun s17 s18 s19 s20 s21 s22 s23 => rec (f83.T1 s17 s18 s19 s20 s21 s22 s23) (f83.H1 s17 s18 s19 s20 s21 s22 s23)
theorem f83.s1_eq {R : Type} (L N m : Nat) (κ : KX R) (rec : KT R) (s17 : Int) (s18 : Int) (s19 : Int) (s20 : LT) (s21 : LS) (s22 : LS) (s23 : LS) :
    evRd (E83 L N m) (evCallI (E83 L N m) 0 1000) 1000 83 217 3 f83.c1 κ rec (f83.T1 s17 s18 s19 s20 s21 s22 s23) (f83.H1 s17 s18 s19 s20 s21 s22 s23)
    = f83.s1 L N (f83 L N m) (f83.X1_e3 κ) (f83.R1 rec) s17 s18 s19 s20 s21 s22 s23 := by kernel_rfl
theorem f83.l1_eq {R : Type} (L N m : Nat) (κ : KX R) : ∀ (n : Nat) (s17 : Int) (s18 : Int) (s19 : Int) (s20 : LT) (s21 : LS) (s22 : LS) (s23 : LS),
    evLp (E83 L N m) (evCallI (E83 L N m) 0 1000) 1000 83 217 3 f83.c1 κ n (f83.T1 s17 s18 s19 s20 s21 s22 s23) (f83.H1 s17 s18 s19 s20 s21 s22 s23)
    = f83.l1 L N (f83 L N m) (f83.X1_e3 κ) n s17 s18 s19 s20 s21 s22 s23 := by
  intro n
  induction n with
  | zero => intros; rfl
  | succ n ih =>
    intro s17 s18 s19 s20 s21 s22 s23
    rw [evLp_succ, f83.s1_eq]
    delta f83.R1
    simp only [ih]
    rfl
noncomputable def f83.c2 : Code := loopAt 5 (codeOf Tryz.f83)
noncomputable def f83.c3 : Code := loopAt 7 f83.c2
def f83.X3_e7 {R : Type} (κ : KX R) := fun z37 z38 z39 z40 => κ (.exit 7) (f83.T3_e7 z37 z38 z39 z40) (f83.H3_e7 z37 z38 z39 z40)
def f83.R3 {R : Type} (rec : KT R) := fun s32 s33 s34 s35 s36 => rec (f83.T3 s32 s33 s34 s35 s36) (f83.H3 s32 s33 s34 s35 s36)
theorem f83.s3_eq {R : Type} (L N m : Nat) (κ : KX R) (rec : KT R) (s32 : Int) (s33 : Int) (s34 : LS) (s35 : LS) (s36 : LS) :
    evRd (E83 L N m) (evCallI (E83 L N m) 0 1000) 1000 83 217 7 f83.c3 κ rec (f83.T3 s32 s33 s34 s35 s36) (f83.H3 s32 s33 s34 s35 s36)
    = f83.s3 L N (f83 L N m) (f83.X3_e7 κ) (f83.R3 rec) s32 s33 s34 s35 s36 := by kernel_rfl
theorem f83.l3_eq {R : Type} (L N m : Nat) (κ : KX R) : ∀ (n : Nat) (s32 : Int) (s33 : Int) (s34 : LS) (s35 : LS) (s36 : LS),
    evLp (E83 L N m) (evCallI (E83 L N m) 0 1000) 1000 83 217 7 f83.c3 κ n (f83.T3 s32 s33 s34 s35 s36) (f83.H3 s32 s33 s34 s35 s36)
    = f83.l3 L N (f83 L N m) (f83.X3_e7 κ) n s32 s33 s34 s35 s36 := by
  intro n
  induction n with
  | zero => intros; rfl
  | succ n ih =>
    intro s32 s33 s34 s35 s36
    rw [evLp_succ, f83.s3_eq]
    delta f83.R3
    simp only [ih]
    rfl
def f83.X2_e5 {R : Type} (κ : KX R) := fun z31 => κ (.exit 5) (f83.T2_e5 z31) (f83.H2_e5 z31)
def f83.R2 {R : Type} (rec : KT R) := fun s27 s28 s29 s30 => rec (f83.T2 s27 s28 s29 s30) (f83.H2 s27 s28 s29 s30)
theorem f83.p3_e7_eq {R : Type} (L N m : Nat) (κ : KX R) (rec : KT R) (z37 : Int) (z38 : LS) (z39 : LS) (z40 : LS) :
    (contAt (E83 L N m) (evCallI (E83 L N m) 0 1000) 1000 83 217 7 f83.c2 (rdK (E83 L N m) 1000 83 217 5 κ rec)) (.exit 7) (f83.T3_e7 z37 z38 z39 z40) (f83.H3_e7 z37 z38 z39 z40)
    = f83.p3_e7 L N (f83 L N m) (f83.X2_e5 κ) (f83.R2 rec) z37 z38 z39 z40 := by kernel_rfl
theorem f83.s2_eq {R : Type} (L N m : Nat) (κ : KX R) (rec : KT R) (s27 : Int) (s28 : LS) (s29 : LS) (s30 : LS) :
    evRd (E83 L N m) (evCallI (E83 L N m) 0 1000) 1000 83 217 5 f83.c2 κ rec (f83.T2 s27 s28 s29 s30) (f83.H2 s27 s28 s29 s30)
    = f83.s2 L N (f83 L N m) (f83.X2_e5 κ) (f83.R2 rec) s27 s28 s29 s30 := by
  refine Eq.trans (b := f83.s2' L N (f83 L N m) (f83.X2_e5 κ) (f83.R2 rec) (fun s32 s33 s34 s35 s36 => evLp (E83 L N m) (evCallI (E83 L N m) 0 1000) 1000 83 217 7 f83.c3 (contAt (E83 L N m) (evCallI (E83 L N m) 0 1000) 1000 83 217 7 f83.c2 (rdK (E83 L N m) 1000 83 217 5 κ rec)) L (f83.T3 s32 s33 s34 s35 s36) (f83.H3 s32 s33 s34 s35 s36)) s27 s28 s29 s30) (by kernel_rfl) ?_
  unfold f83.s2
  simp only [f83.l3_eq]
  delta f83.X3_e7
  simp only [f83.p3_e7_eq]
theorem f83.l2_eq {R : Type} (L N m : Nat) (κ : KX R) : ∀ (n : Nat) (s27 : Int) (s28 : LS) (s29 : LS) (s30 : LS),
    evLp (E83 L N m) (evCallI (E83 L N m) 0 1000) 1000 83 217 5 f83.c2 κ n (f83.T2 s27 s28 s29 s30) (f83.H2 s27 s28 s29 s30)
    = f83.l2 L N (f83 L N m) (f83.X2_e5 κ) n s27 s28 s29 s30 := by
  intro n
  induction n with
  | zero => intros; rfl
  | succ n ih =>
    intro s27 s28 s29 s30
    rw [evLp_succ, f83.s2_eq]
    delta f83.R2
    simp only [ih]
    rfl
theorem f83.p2_e5_eq {R : Type} (L N m : Nat) (κ : List Step → Option R) (z31 : LS) :
    (contAt (E83 L N m) (evCallI (E83 L N m) 0 1000) 1000 83 217 5 (codeOf Tryz.f83) (finK (E83 L N m) 1000 Tryz.f83 (finRow 106 (.st 3) κ))) (.exit 5) (f83.T2_e5 z31) (f83.H2_e5 z31)
    = f83.p2_e5 L N (f83 L N m) κ z31 := by kernel_rfl
theorem f83.p1_e3_eq {R : Type} (L N m : Nat) (κ : List Step → Option R) (z24 : LS) (z25 : LS) (z26 : LS) :
    (contAt (E83 L N m) (evCallI (E83 L N m) 0 1000) 1000 83 217 3 (codeOf Tryz.f83) (finK (E83 L N m) 1000 Tryz.f83 (finRow 106 (.st 3) κ))) (.exit 3) (f83.T1_e3 z24 z25 z26) (f83.H1_e3 z24 z25 z26)
    = f83.p1_e3 L N (f83 L N m) κ z24 z25 z26 := by
  refine Eq.trans (b := f83.p1_e3' L N (f83 L N m) κ (fun s27 s28 s29 s30 => evLp (E83 L N m) (evCallI (E83 L N m) 0 1000) 1000 83 217 5 f83.c2 (contAt (E83 L N m) (evCallI (E83 L N m) 0 1000) 1000 83 217 5 (codeOf Tryz.f83) (finK (E83 L N m) 1000 Tryz.f83 (finRow 106 (.st 3) κ))) L (f83.T2 s27 s28 s29 s30) (f83.H2 s27 s28 s29 s30)) z24 z25 z26) (by kernel_rfl) ?_
  unfold f83.p1_e3
  simp only [f83.l2_eq]
  delta f83.X2_e5
  simp only [f83.p2_e5_eq]
theorem f83.p0_e1_eq {R : Type} (L N m : Nat) (κ : List Step → Option R) (z11 : Int) (z12 : Int) (z13 : LT) (z14 : LS) (z15 : LS) (z16 : LS) :
    (contAt (E83 L N m) (evCallI (E83 L N m) 0 1000) 1000 83 217 1 (codeOf Tryz.f83) (finK (E83 L N m) 1000 Tryz.f83 (finRow 106 (.st 3) κ))) (.exit 1) (f83.T0_e1 z11 z12 z13 z14 z15 z16) (f83.H0_e1 z11 z12 z13 z14 z15 z16)
    = f83.p0_e1 L N (f83 L N m) κ z11 z12 z13 z14 z15 z16 := by
  refine Eq.trans (b := f83.p0_e1' L N (f83 L N m) κ (fun s17 s18 s19 s20 s21 s22 s23 => evLp (E83 L N m) (evCallI (E83 L N m) 0 1000) 1000 83 217 3 f83.c1 (contAt (E83 L N m) (evCallI (E83 L N m) 0 1000) 1000 83 217 3 (codeOf Tryz.f83) (finK (E83 L N m) 1000 Tryz.f83 (finRow 106 (.st 3) κ))) L (f83.T1 s17 s18 s19 s20 s21 s22 s23) (f83.H1 s17 s18 s19 s20 s21 s22 s23)) z11 z12 z13 z14 z15 z16) (by kernel_rfl) ?_
  unfold f83.p0_e1
  simp only [f83.l1_eq]
  delta f83.X1_e3
  simp only [f83.p1_e3_eq]
noncomputable def f83.c4 : Code := loopAt 9 (codeOf Tryz.f83)
def f83.X4_e9 {R : Type} (κ : KX R) := fun z59 => κ (.exit 9) (f83.T4_e9 z59) (f83.H4_e9 z59)
def f83.R4 {R : Type} (rec : KT R) := fun s53 s54 s55 s56 s57 s58 => rec (f83.T4 s53 s54 s55 s56 s57 s58) (f83.H4 s53 s54 s55 s56 s57 s58)
theorem f83.s4_eq {R : Type} (L N m : Nat) (κ : KX R) (rec : KT R) (s53 : Int) (s54 : Int) (s55 : Int) (s56 : LT) (s57 : LS) (s58 : LS) :
    evRd (E83 L N m) (evCallI (E83 L N m) 0 1000) 1000 83 217 9 f83.c4 κ rec (f83.T4 s53 s54 s55 s56 s57 s58) (f83.H4 s53 s54 s55 s56 s57 s58)
    = f83.s4 L N (f83 L N m) (f83.X4_e9 κ) (f83.R4 rec) s53 s54 s55 s56 s57 s58 := by kernel_rfl
theorem f83.l4_eq {R : Type} (L N m : Nat) (κ : KX R) : ∀ (n : Nat) (s53 : Int) (s54 : Int) (s55 : Int) (s56 : LT) (s57 : LS) (s58 : LS),
    evLp (E83 L N m) (evCallI (E83 L N m) 0 1000) 1000 83 217 9 f83.c4 κ n (f83.T4 s53 s54 s55 s56 s57 s58) (f83.H4 s53 s54 s55 s56 s57 s58)
    = f83.l4 L N (f83 L N m) (f83.X4_e9 κ) n s53 s54 s55 s56 s57 s58 := by
  intro n
  induction n with
  | zero => intros; rfl
  | succ n ih =>
    intro s53 s54 s55 s56 s57 s58
    rw [evLp_succ, f83.s4_eq]
    delta f83.R4
    simp only [ih]
    rfl
theorem f83.p4_e9_eq {R : Type} (L N m : Nat) (κ : List Step → Option R) (z59 : LS) :
    (contAt (E83 L N m) (evCallI (E83 L N m) 0 1000) 1000 83 217 9 (codeOf Tryz.f83) (finK (E83 L N m) 1000 Tryz.f83 (finRow 106 (.st 3) κ))) (.exit 9) (f83.T4_e9 z59) (f83.H4_e9 z59)
    = f83.p4_e9 L N (f83 L N m) κ z59 := by kernel_rfl
theorem f83.b_eq {R : Type} (L N m : Nat) (κ : List Step → Option R) (x0 : Tree) (x1 : LT) :
    evBody (E83 L N m) (evCallI (E83 L N m) 0 1000) 1000 83 Tryz.f83 [(.tv (.st 1) x0), (.tv (.sl (.st 1)) x1)] [] [] (finRow 106 (.st 3) κ)
    = f83.b L N (f83 L N m) κ x0 x1 := by
  refine Eq.trans (b := f83.b' L N (f83 L N m) κ (fun s4 s5 s6 s7 s8 s9 s10 => evLp (E83 L N m) (evCallI (E83 L N m) 0 1000) 1000 83 217 1 f83.c0 (contAt (E83 L N m) (evCallI (E83 L N m) 0 1000) 1000 83 217 1 (codeOf Tryz.f83) (finK (E83 L N m) 1000 Tryz.f83 (finRow 106 (.st 3) κ))) L (f83.T0 s4 s5 s6 s7 s8 s9 s10) (f83.H0 s4 s5 s6 s7 s8 s9 s10)) (fun s53 s54 s55 s56 s57 s58 => evLp (E83 L N m) (evCallI (E83 L N m) 0 1000) 1000 83 217 9 f83.c4 (contAt (E83 L N m) (evCallI (E83 L N m) 0 1000) 1000 83 217 9 (codeOf Tryz.f83) (finK (E83 L N m) 1000 Tryz.f83 (finRow 106 (.st 3) κ))) L (f83.T4 s53 s54 s55 s56 s57 s58) (f83.H4 s53 s54 s55 s56 s57 s58)) x0 x1) (by kernel_rfl) ?_
  unfold f83.b
  simp only [f83.l0_eq, f83.l4_eq]
  delta f83.X0_e1 f83.X4_e9
  simp only [f83.p0_e1_eq, f83.p4_e9_eq]
theorem f83.ok (L N m : Nat) (hΦ : TellsOk Tryz.prog (Φ83s L N m)) : EntOk Tryz.prog 83 (f83.ent L N (m + 1)) := by
  intro args vw site h
  unfold f83.ent
  split
  · rename_i d u ha
    intro y hy hs
    refine call_row (dep := 1000) (E := (E83 L N m)) (sound_of hΦ) okP (callI_sound (sound_of hΦ) okP 0 1000) (f := Tryz.f83) rfl hs ha ?_ site
    exact (f83.b_eq L N m some d.1 d.2.1).trans hy
  · intro y hy
    cases hy
theorem Φ83s_ok (L N : Nat) : ∀ m, TellsOk Tryz.prog (Φ83s L N m) := by
  intro m
  induction m with
  | zero => exact (addT_ok (Φ82_ok L N) (fun args vw site h => by unfold f83.ent; split <;> (intro y hy; cases hy)))
  | succ m ih => exact (addT_ok (Φ82_ok L N) (f83.ok L N m ih))
def Φ83 (L N : Nat) : Tells := (addT (Φ82 L N) 83 (f83.ent L N N))
theorem Φ83_ok (L N : Nat) : TellsOk Tryz.prog (Φ83 L N) := Φ83s_ok L N N
def f65.s2' {R : Type} (L N : Nat) (k2_e4 : LT → Int → Int → ByteArray → Int → LT → LY → LS → LM → LLM → Option R) (rec2 : LT → Int → Int → ByteArray → Int → LT → LY → LS → LM → LLM → Option R) (s23 : LT) (s24 : Int) (s25 : Int) (s26 : ByteArray) (s27 : Int) (s28 : LT) (s29 : LY) (s30 : LS) (s31 : LM) (s32 : LLM) : Option R :=
  bif (decide (s27 < (s29.length : Int))) then
    bif (decide (0 ≤ s27) && decide (s27 < (s29.length : Int))) then
      bif (!((listAt s29 ByteArray.empty s27.toNat).toList == s26.toList)) then
        rec2 s23 s24 s25 s26 (wi (s27 + (1 : Int))) s28 s29 s30 s31 s32
      else k2_e4 s23 s24 s25 s26 s27 s28 s29 s30 s31 s32
    else none
  else k2_e4 s23 s24 s25 s26 s27 s28 s29 s30 s31 s32
def f65.s2 {R : Type} (L N : Nat) (k2_e4 : LT → Int → Int → ByteArray → Int → LT → LY → LS → LM → LLM → Option R) (rec2 : LT → Int → Int → ByteArray → Int → LT → LY → LS → LM → LLM → Option R) (s23 : LT) (s24 : Int) (s25 : Int) (s26 : ByteArray) (s27 : Int) (s28 : LT) (s29 : LY) (s30 : LS) (s31 : LM) (s32 : LLM) : Option R :=
  f65.s2' L N k2_e4 rec2 s23 s24 s25 s26 s27 s28 s29 s30 s31 s32
def f65.l2 {R : Type} (L N : Nat) (k2_e4 : LT → Int → Int → ByteArray → Int → LT → LY → LS → LM → LLM → Option R) : Nat → LT → Int → Int → ByteArray → Int → LT → LY → LS → LM → LLM → Option R
  | 0, _, _, _, _, _, _, _, _, _, _ => none
  | n + 1, s23, s24, s25, s26, s27, s28, s29, s30, s31, s32 => f65.s2 L N k2_e4 (f65.l2 L N k2_e4 n) s23 s24 s25 s26 s27 s28 s29 s30 s31 s32
def f65.T2 (s23 : LT) (s24 : Int) (s25 : Int) (s26 : ByteArray) (s27 : Int) (s28 : LT) (s29 : LY) (s30 : LS) (s31 : LM) (s32 : LLM) : T := mkT 106 [(1, (.tv (.sl (.st 1)) s23)), (4, (.ptr 1004 0)), (6, (.row 1016)), (7, (.row 1019)), (8, (.ptr 1008 0)), (9, (.tv i64 s24)), (10, (.row 1032)), (11, (.row 1033)), (12, (.tv i64 s25)), (13, (.tv .str s26)), (14, (.tv i64 s27))]
def f65.H2 (s23 : LT) (s24 : Int) (s25 : Int) (s26 : ByteArray) (s27 : Int) (s28 : LT) (s29 : LY) (s30 : LS) (s31 : LM) (s32 : LLM) : H := [(1004, (.box [.nil])), (1008, (.box [(.row 1900)])), (1016, (.row 63 (.st 1) s28)), (1019, (.row 9 .str s29)), (1032, (.row 106 (.st 3) s30)), (1033, (.row 50 (.st 0) s31)), (1900, (.row 48 (.sl (.st 0)) s32))]
def f65.T2_e4 (z44 : LT) (z45 : Int) (z46 : Int) (z47 : ByteArray) (z48 : Int) (z49 : LT) (z50 : LY) (z51 : LS) (z52 : LM) (z53 : LLM) : T := mkT 106 [(1, (.tv (.sl (.st 1)) z44)), (4, (.ptr 1004 0)), (6, (.row 1016)), (7, (.row 1019)), (8, (.ptr 1008 0)), (9, (.tv i64 z45)), (10, (.row 1032)), (11, (.row 1033)), (12, (.tv i64 z46)), (13, (.tv .str z47)), (14, (.tv i64 z48))]
def f65.H2_e4 (z44 : LT) (z45 : Int) (z46 : Int) (z47 : ByteArray) (z48 : Int) (z49 : LT) (z50 : LY) (z51 : LS) (z52 : LM) (z53 : LLM) : H := [(1004, (.box [.nil])), (1008, (.box [(.row 1900)])), (1016, (.row 63 (.st 1) z49)), (1019, (.row 9 .str z50)), (1032, (.row 106 (.st 3) z51)), (1033, (.row 50 (.st 0) z52)), (1900, (.row 48 (.sl (.st 0)) z53))]
def f65.j1' {R : Type} (L N : Nat) (k1_e2 : LT → Int → LT → LY → LM → LLM → Option R) (k1_r : LT → Bool → Int → LT → LY → LM → LLM → Option R) (rec1 : LT → Int → Int → LT → LY → LS → LM → LLM → Option R) (v93 : LT) (v94 : Int) (v95 : Int) (v96 : Int) (v97 : LT) (v98 : LY) (v99 : LS) (v100 : LM) (v101 : LLM) : Option R :=
  bif (decide (0 ≤ v95) && decide (v95 < (v99.length : Int))) then
    bif (decide (v100.length + ([(Move.mk ((listAt v99 (Ty.dflt (.st 3)) v95.toNat).act) v96)] : LM).length ≤ lim)) then
      rec1 v93 v94 (wi (v95 + (1 : Int))) v97 v98 v99 (v100 ++ ([(Move.mk ((listAt v99 (Ty.dflt (.st 3)) v95.toNat).act) v96)] : LM)) v101
    else none
  else none
def f65.j0' {R : Type} (L N : Nat) (k1_e2 : LT → Int → LT → LY → LM → LLM → Option R) (k1_r : LT → Bool → Int → LT → LY → LM → LLM → Option R) (rec1 : LT → Int → Int → LT → LY → LS → LM → LLM → Option R) (v83 : LT) (v84 : Int) (v85 : Int) (v86 : ByteArray) (v87 : Int) (v88 : LT) (v89 : LY) (v90 : LS) (v91 : LM) (v92 : LLM) : Option R :=
  bif (decide (0 ≤ v85) && decide (v85 < (v90.length : Int))) then
    bif (decide (v88.length + ([(Tree.mk ((listAt v90 (Ty.dflt (.st 3)) v85.toNat).thn.op) ((listAt v90 (Ty.dflt (.st 3)) v85.toNat).thn.n) ((listAt v90 (Ty.dflt (.st 3)) v85.toNat).thn.parts))] : LT).length ≤ lim)) then
      bif (decide (v89.length + ([v86] : LY).length ≤ lim)) then
        f65.j1' L N k1_e2 k1_r rec1 v83 v84 v85 v87 (v88 ++ ([(Tree.mk ((listAt v90 (Ty.dflt (.st 3)) v85.toNat).thn.op) ((listAt v90 (Ty.dflt (.st 3)) v85.toNat).thn.n) ((listAt v90 (Ty.dflt (.st 3)) v85.toNat).thn.parts))] : LT)) (v89 ++ ([v86] : LY)) v90 v91 v92
      else none
    else none
  else none
def f65.p2_e4' {R : Type} (L N : Nat) (k1_e2 : LT → Int → LT → LY → LM → LLM → Option R) (k1_r : LT → Bool → Int → LT → LY → LM → LLM → Option R) (rec1 : LT → Int → Int → LT → LY → LS → LM → LLM → Option R) (z44 : LT) (z45 : Int) (z46 : Int) (z47 : ByteArray) (z48 : Int) (z49 : LT) (z50 : LY) (z51 : LS) (z52 : LM) (z53 : LLM) : Option R :=
  bif (z48 == (z50.length : Int)) then
    bif (z48 == (60 : Int)) then
      k1_r z44 false z45 z49 z50 z52 z53
    else bif (decide (0 ≤ z46) && decide (z46 < (z51.length : Int))) then
      (f84 L N N (Tree.mk ((listAt z51 (Ty.dflt (.st 3)) z46.toNat).thn.op) ((listAt z51 (Ty.dflt (.st 3)) z46.toNat).thn.n) ((listAt z51 (Ty.dflt (.st 3)) z46.toNat).thn.parts))).bind fun y64 =>
      bif (decide (y64 > (24 : Int))) then
        k1_r z44 false z45 z49 z50 z52 z53
      else f65.j0' L N k1_e2 k1_r rec1 z44 z45 z46 z47 z48 z49 z50 z51 z52 z53
    else none
  else f65.j1' L N k1_e2 k1_r rec1 z44 z45 z46 z48 z49 z50 z51 z52 z53
def f65.p2_e4 {R : Type} (L N : Nat) (k1_e2 : LT → Int → LT → LY → LM → LLM → Option R) (k1_r : LT → Bool → Int → LT → LY → LM → LLM → Option R) (rec1 : LT → Int → Int → LT → LY → LS → LM → LLM → Option R) (z44 : LT) (z45 : Int) (z46 : Int) (z47 : ByteArray) (z48 : Int) (z49 : LT) (z50 : LY) (z51 : LS) (z52 : LM) (z53 : LLM) : Option R :=
  f65.p2_e4' L N k1_e2 k1_r rec1 z44 z45 z46 z47 z48 z49 z50 z51 z52 z53
def f65.s1' {R : Type} (L N : Nat) (k1_e2 : LT → Int → LT → LY → LM → LLM → Option R) (k1_r : LT → Bool → Int → LT → LY → LM → LLM → Option R) (rec1 : LT → Int → Int → LT → LY → LS → LM → LLM → Option R) (w2 : LT → Int → Int → ByteArray → Int → LT → LY → LS → LM → LLM → Option R) (s8 : LT) (s9 : Int) (s10 : Int) (s11 : LT) (s12 : LY) (s13 : LS) (s14 : LM) (s15 : LLM) : Option R :=
  bif (decide (s10 < (s13.length : Int))) then
    bif (decide (0 ≤ s10) && decide (s10 < (s13.length : Int))) then
      (f82 L N N (Tree.mk ((listAt s13 (Ty.dflt (.st 3)) s10.toNat).thn.op) ((listAt s13 (Ty.dflt (.st 3)) s10.toNat).thn.n) ((listAt s13 (Ty.dflt (.st 3)) s10.toNat).thn.parts))).bind fun y22 =>
      w2 s8 s9 s10 y22 (0 : Int) s11 s12 s13 s14 s15
    else none
  else k1_e2 s8 s9 s11 s12 s14 s15
def f65.s1 {R : Type} (L N : Nat) (k1_e2 : LT → Int → LT → LY → LM → LLM → Option R) (k1_r : LT → Bool → Int → LT → LY → LM → LLM → Option R) (rec1 : LT → Int → Int → LT → LY → LS → LM → LLM → Option R) (s8 : LT) (s9 : Int) (s10 : Int) (s11 : LT) (s12 : LY) (s13 : LS) (s14 : LM) (s15 : LLM) : Option R :=
  f65.s1' L N k1_e2 k1_r rec1 (fun s23 s24 s25 s26 s27 s28 s29 s30 s31 s32 => f65.l2 L N (fun z44 z45 z46 z47 z48 z49 z50 z51 z52 z53 => f65.p2_e4 L N k1_e2 k1_r rec1 z44 z45 z46 z47 z48 z49 z50 z51 z52 z53) L s23 s24 s25 s26 s27 s28 s29 s30 s31 s32) s8 s9 s10 s11 s12 s13 s14 s15
def f65.l1 {R : Type} (L N : Nat) (k1_e2 : LT → Int → LT → LY → LM → LLM → Option R) (k1_r : LT → Bool → Int → LT → LY → LM → LLM → Option R) : Nat → LT → Int → Int → LT → LY → LS → LM → LLM → Option R
  | 0, _, _, _, _, _, _, _, _ => none
  | n + 1, s8, s9, s10, s11, s12, s13, s14, s15 => f65.s1 L N k1_e2 k1_r (f65.l1 L N k1_e2 k1_r n) s8 s9 s10 s11 s12 s13 s14 s15
def f65.T1 (s8 : LT) (s9 : Int) (s10 : Int) (s11 : LT) (s12 : LY) (s13 : LS) (s14 : LM) (s15 : LLM) : T := mkT 106 [(1, (.tv (.sl (.st 1)) s8)), (4, (.ptr 1004 0)), (6, (.row 1016)), (7, (.row 1019)), (8, (.ptr 1008 0)), (9, (.tv i64 s9)), (10, (.row 1032)), (11, (.row 1033)), (12, (.tv i64 s10))]
def f65.H1 (s8 : LT) (s9 : Int) (s10 : Int) (s11 : LT) (s12 : LY) (s13 : LS) (s14 : LM) (s15 : LLM) : H := [(1004, (.box [.nil])), (1008, (.box [(.row 1900)])), (1016, (.row 63 (.st 1) s11)), (1019, (.row 9 .str s12)), (1032, (.row 106 (.st 3) s13)), (1033, (.row 50 (.st 0) s14)), (1900, (.row 48 (.sl (.st 0)) s15))]
def f65.T1_e2 (z16 : LT) (z17 : Int) (z18 : LT) (z19 : LY) (z20 : LM) (z21 : LLM) : T := mkT 106 [(1, (.tv (.sl (.st 1)) z16)), (4, (.ptr 1004 0)), (6, (.row 1016)), (7, (.row 1019)), (8, (.ptr 1008 0)), (9, (.tv i64 z17)), (11, (.row 1033))]
def f65.H1_e2 (z16 : LT) (z17 : Int) (z18 : LT) (z19 : LY) (z20 : LM) (z21 : LLM) : H := [(1004, (.box [.nil])), (1008, (.box [(.row 1900)])), (1016, (.row 63 (.st 1) z18)), (1019, (.row 9 .str z19)), (1033, (.row 50 (.st 0) z20)), (1900, (.row 48 (.sl (.st 0)) z21))]
def f65.T1_r (z76 : LT) (z77 : Bool) (z78 : Int) (z79 : LT) (z80 : LY) (z81 : LM) (z82 : LLM) : T := mkT 106 [(1, (.tv (.sl (.st 1)) z76)), (4, (.ptr 1004 0)), (5, (.tv .bool z77)), (6, (.row 1016)), (7, (.row 1019)), (8, (.ptr 1008 0)), (9, (.tv i64 z78)), (11, (.row 1033))]
def f65.H1_r (z76 : LT) (z77 : Bool) (z78 : Int) (z79 : LT) (z80 : LY) (z81 : LM) (z82 : LLM) : H := [(1004, (.box [.nil])), (1008, (.box [(.row 1900)])), (1016, (.row 63 (.st 1) z79)), (1019, (.row 9 .str z80)), (1033, (.row 50 (.st 0) z81)), (1900, (.row 48 (.sl (.st 0)) z82))]
def f65.p1_e2' {R : Type} (L N : Nat) (k0_e0 : LLM → Option R) (k0_r : Bool → LLM → Option R) (rec0 : LT → Int → LT → LY → LLM → Option R) (z16 : LT) (z17 : Int) (z18 : LT) (z19 : LY) (z20 : LM) (z21 : LLM) : Option R :=
  (f67 L N z20).bind fun y104 =>
  bif (decide (z21.length + ([y104] : LLM).length ≤ lim)) then
    rec0 z16 (wi (z17 + (1 : Int))) z18 z19 (z21 ++ ([y104] : LLM))
  else none
def f65.p1_e2 {R : Type} (L N : Nat) (k0_e0 : LLM → Option R) (k0_r : Bool → LLM → Option R) (rec0 : LT → Int → LT → LY → LLM → Option R) (z16 : LT) (z17 : Int) (z18 : LT) (z19 : LY) (z20 : LM) (z21 : LLM) : Option R :=
  f65.p1_e2' L N k0_e0 k0_r rec0 z16 z17 z18 z19 z20 z21
def f65.p1_r' {R : Type} (L N : Nat) (k0_e0 : LLM → Option R) (k0_r : Bool → LLM → Option R) (rec0 : LT → Int → LT → LY → LLM → Option R) (z76 : LT) (z77 : Bool) (z78 : Int) (z79 : LT) (z80 : LY) (z81 : LM) (z82 : LLM) : Option R :=
  k0_r z77 z82
def f65.p1_r {R : Type} (L N : Nat) (k0_e0 : LLM → Option R) (k0_r : Bool → LLM → Option R) (rec0 : LT → Int → LT → LY → LLM → Option R) (z76 : LT) (z77 : Bool) (z78 : Int) (z79 : LT) (z80 : LY) (z81 : LM) (z82 : LLM) : Option R :=
  f65.p1_r' L N k0_e0 k0_r rec0 z76 z77 z78 z79 z80 z81 z82
def f65.s0' {R : Type} (L N : Nat) (k0_e0 : LLM → Option R) (k0_r : Bool → LLM → Option R) (rec0 : LT → Int → LT → LY → LLM → Option R) (w1 : LT → Int → Int → LT → LY → LS → LM → LLM → Option R) (s1 : LT) (s2 : Int) (s3 : LT) (s4 : LY) (s5 : LLM) : Option R :=
  bif (decide (s2 < (s3.length : Int))) then
    bif (decide (0 ≤ s2) && decide (s2 < (s3.length : Int))) then
      (f83 L N N (listAt s3 (Ty.dflt (.st 1)) s2.toNat) s1).bind fun y7 =>
      w1 s1 s2 (0 : Int) s3 s4 y7 ([] : LM) s5
    else none
  else k0_e0 s5
def f65.s0 {R : Type} (L N : Nat) (k0_e0 : LLM → Option R) (k0_r : Bool → LLM → Option R) (rec0 : LT → Int → LT → LY → LLM → Option R) (s1 : LT) (s2 : Int) (s3 : LT) (s4 : LY) (s5 : LLM) : Option R :=
  f65.s0' L N k0_e0 k0_r rec0 (fun s8 s9 s10 s11 s12 s13 s14 s15 => f65.l1 L N (fun z16 z17 z18 z19 z20 z21 => f65.p1_e2 L N k0_e0 k0_r rec0 z16 z17 z18 z19 z20 z21) (fun z76 z77 z78 z79 z80 z81 z82 => f65.p1_r L N k0_e0 k0_r rec0 z76 z77 z78 z79 z80 z81 z82) L s8 s9 s10 s11 s12 s13 s14 s15) s1 s2 s3 s4 s5
def f65.l0 {R : Type} (L N : Nat) (k0_e0 : LLM → Option R) (k0_r : Bool → LLM → Option R) : Nat → LT → Int → LT → LY → LLM → Option R
  | 0, _, _, _, _, _ => none
  | n + 1, s1, s2, s3, s4, s5 => f65.s0 L N k0_e0 k0_r (f65.l0 L N k0_e0 k0_r n) s1 s2 s3 s4 s5
def f65.T0 (s1 : LT) (s2 : Int) (s3 : LT) (s4 : LY) (s5 : LLM) : T := mkT 106 [(1, (.tv (.sl (.st 1)) s1)), (4, (.ptr 1004 0)), (6, (.row 1016)), (7, (.row 1019)), (8, (.ptr 1008 0)), (9, (.tv i64 s2))]
def f65.H0 (s1 : LT) (s2 : Int) (s3 : LT) (s4 : LY) (s5 : LLM) : H := [(1004, (.box [.nil])), (1008, (.box [(.row 1900)])), (1016, (.row 63 (.st 1) s3)), (1019, (.row 9 .str s4)), (1900, (.row 48 (.sl (.st 0)) s5))]
def f65.T0_e0 (z6 : LLM) : T := mkT 106 [(4, (.ptr 1004 0)), (8, (.ptr 1008 0))]
def f65.H0_e0 (z6 : LLM) : H := [(1004, (.box [.nil])), (1008, (.box [(.row 1900)])), (1900, (.row 48 (.sl (.st 0)) z6))]
def f65.T0_r (z102 : Bool) (z103 : LLM) : T := mkT 106 [(4, (.ptr 1004 0)), (5, (.tv .bool z102)), (8, (.ptr 1008 0))]
def f65.H0_r (z102 : Bool) (z103 : LLM) : H := [(1004, (.box [.nil])), (1008, (.box [(.row 1900)])), (1900, (.row 48 (.sl (.st 0)) z103))]
def f65.p0_e0' {R : Type} (L N : Nat) (k : Graph → Bool → Option R) (z6 : LLM) : Option R :=
  k (Graph.mk z6) true
def f65.p0_e0 {R : Type} (L N : Nat) (k : Graph → Bool → Option R) (z6 : LLM) : Option R :=
  f65.p0_e0' L N k z6
def f65.p0_r' {R : Type} (L N : Nat) (k : Graph → Bool → Option R) (z102 : Bool) (z103 : LLM) : Option R :=
  k (Graph.mk []) z102
def f65.p0_r {R : Type} (L N : Nat) (k : Graph → Bool → Option R) (z102 : Bool) (z103 : LLM) : Option R :=
  f65.p0_r' L N k z102 z103
def f65.b' {R : Type} (L N : Nat) (k : Graph → Bool → Option R) (w0 : LT → Int → LT → LY → LLM → Option R) (x0 : Tree) (x1 : LT) : Option R :=
  (f82 L N N (Tree.mk x0.op x0.n x0.parts)).bind fun y0 =>
  w0 x1 (0 : Int) ([(Tree.mk x0.op x0.n x0.parts)] : LT) ([y0] : LY) ([] : LLM)
def f65.b {R : Type} (L N : Nat) (k : Graph → Bool → Option R) (x0 : Tree) (x1 : LT) : Option R :=
  f65.b' L N k (fun s1 s2 s3 s4 s5 => f65.l0 L N (fun z6 => f65.p0_e0 L N k z6) (fun z102 z103 => f65.p0_r L N k z102 z103) L s1 s2 s3 s4 s5) x0 x1
def f65 (L N : Nat) (x0 : Tree) (x1 : LT) : Option (Graph × Bool) := f65.b L N (fun a0 a1 => some (a0, a1)) x0 x1
def f65.ent (L N : Nat) := entDa [(.st 1), (.sl (.st 1))] (.many [(.st 2), .bool]) fun d => f65 L N d.1 d.2.1
noncomputable def E65 (L N : Nat) : Env := { P := Tryz.prog, ty := tyOf, Φ := (Φ83 L N), inl := inlT, live := lives, liveX := livesX, L := L, dp := none, prom := promT, heal := healT, ren := renT }
noncomputable def f65.c0 : Code := loopAt 0 (codeOf Tryz.f65)
noncomputable def f65.c1 : Code := loopAt 2 f65.c0
noncomputable def f65.c2 : Code := loopAt 4 f65.c1
def f65.X2_e4 {R : Type} (κ : KX R) := fun z44 z45 z46 z47 z48 z49 z50 z51 z52 z53 => κ (.exit 4) (f65.T2_e4 z44 z45 z46 z47 z48 z49 z50 z51 z52 z53) (f65.H2_e4 z44 z45 z46 z47 z48 z49 z50 z51 z52 z53)
def f65.R2 {R : Type} (rec : KT R) := fun s23 s24 s25 s26 s27 s28 s29 s30 s31 s32 => rec (f65.T2 s23 s24 s25 s26 s27 s28 s29 s30 s31 s32) (f65.H2 s23 s24 s25 s26 s27 s28 s29 s30 s31 s32)
theorem f65.s2_eq {R : Type} (L N : Nat) (κ : KX R) (rec : KT R) (s23 : LT) (s24 : Int) (s25 : Int) (s26 : ByteArray) (s27 : Int) (s28 : LT) (s29 : LY) (s30 : LS) (s31 : LM) (s32 : LLM) :
    evRd (E65 L N) (evCallI (E65 L N) 0 1000) 1000 65 106 4 f65.c2 κ rec (f65.T2 s23 s24 s25 s26 s27 s28 s29 s30 s31 s32) (f65.H2 s23 s24 s25 s26 s27 s28 s29 s30 s31 s32)
    = f65.s2 L N (f65.X2_e4 κ) (f65.R2 rec) s23 s24 s25 s26 s27 s28 s29 s30 s31 s32 := by kernel_rfl
theorem f65.l2_eq {R : Type} (L N : Nat) (κ : KX R) : ∀ (n : Nat) (s23 : LT) (s24 : Int) (s25 : Int) (s26 : ByteArray) (s27 : Int) (s28 : LT) (s29 : LY) (s30 : LS) (s31 : LM) (s32 : LLM),
    evLp (E65 L N) (evCallI (E65 L N) 0 1000) 1000 65 106 4 f65.c2 κ n (f65.T2 s23 s24 s25 s26 s27 s28 s29 s30 s31 s32) (f65.H2 s23 s24 s25 s26 s27 s28 s29 s30 s31 s32)
    = f65.l2 L N (f65.X2_e4 κ) n s23 s24 s25 s26 s27 s28 s29 s30 s31 s32 := by
  intro n
  induction n with
  | zero => intros; rfl
  | succ n ih =>
    intro s23 s24 s25 s26 s27 s28 s29 s30 s31 s32
    rw [evLp_succ, f65.s2_eq]
    delta f65.R2
    simp only [ih]
    rfl
def f65.X1_e2 {R : Type} (κ : KX R) := fun z16 z17 z18 z19 z20 z21 => κ (.exit 2) (f65.T1_e2 z16 z17 z18 z19 z20 z21) (f65.H1_e2 z16 z17 z18 z19 z20 z21)
def f65.X1_r {R : Type} (κ : KX R) := fun z76 z77 z78 z79 z80 z81 z82 => κ .ret (f65.T1_r z76 z77 z78 z79 z80 z81 z82) (f65.H1_r z76 z77 z78 z79 z80 z81 z82)
def f65.R1 {R : Type} (rec : KT R) := fun s8 s9 s10 s11 s12 s13 s14 s15 => rec (f65.T1 s8 s9 s10 s11 s12 s13 s14 s15) (f65.H1 s8 s9 s10 s11 s12 s13 s14 s15)
theorem f65.p2_e4_eq {R : Type} (L N : Nat) (κ : KX R) (rec : KT R) (z44 : LT) (z45 : Int) (z46 : Int) (z47 : ByteArray) (z48 : Int) (z49 : LT) (z50 : LY) (z51 : LS) (z52 : LM) (z53 : LLM) :
    (contAt (E65 L N) (evCallI (E65 L N) 0 1000) 1000 65 106 4 f65.c1 (rdK (E65 L N) 1000 65 106 2 κ rec)) (.exit 4) (f65.T2_e4 z44 z45 z46 z47 z48 z49 z50 z51 z52 z53) (f65.H2_e4 z44 z45 z46 z47 z48 z49 z50 z51 z52 z53)
    = f65.p2_e4 L N (f65.X1_e2 κ) (f65.X1_r κ) (f65.R1 rec) z44 z45 z46 z47 z48 z49 z50 z51 z52 z53 := by kernel_rfl
theorem f65.s1_eq {R : Type} (L N : Nat) (κ : KX R) (rec : KT R) (s8 : LT) (s9 : Int) (s10 : Int) (s11 : LT) (s12 : LY) (s13 : LS) (s14 : LM) (s15 : LLM) :
    evRd (E65 L N) (evCallI (E65 L N) 0 1000) 1000 65 106 2 f65.c1 κ rec (f65.T1 s8 s9 s10 s11 s12 s13 s14 s15) (f65.H1 s8 s9 s10 s11 s12 s13 s14 s15)
    = f65.s1 L N (f65.X1_e2 κ) (f65.X1_r κ) (f65.R1 rec) s8 s9 s10 s11 s12 s13 s14 s15 := by
  refine Eq.trans (b := f65.s1' L N (f65.X1_e2 κ) (f65.X1_r κ) (f65.R1 rec) (fun s23 s24 s25 s26 s27 s28 s29 s30 s31 s32 => evLp (E65 L N) (evCallI (E65 L N) 0 1000) 1000 65 106 4 f65.c2 (contAt (E65 L N) (evCallI (E65 L N) 0 1000) 1000 65 106 4 f65.c1 (rdK (E65 L N) 1000 65 106 2 κ rec)) L (f65.T2 s23 s24 s25 s26 s27 s28 s29 s30 s31 s32) (f65.H2 s23 s24 s25 s26 s27 s28 s29 s30 s31 s32)) s8 s9 s10 s11 s12 s13 s14 s15) (by kernel_rfl) ?_
  unfold f65.s1
  simp only [f65.l2_eq]
  delta f65.X2_e4
  simp only [f65.p2_e4_eq]
theorem f65.l1_eq {R : Type} (L N : Nat) (κ : KX R) : ∀ (n : Nat) (s8 : LT) (s9 : Int) (s10 : Int) (s11 : LT) (s12 : LY) (s13 : LS) (s14 : LM) (s15 : LLM),
    evLp (E65 L N) (evCallI (E65 L N) 0 1000) 1000 65 106 2 f65.c1 κ n (f65.T1 s8 s9 s10 s11 s12 s13 s14 s15) (f65.H1 s8 s9 s10 s11 s12 s13 s14 s15)
    = f65.l1 L N (f65.X1_e2 κ) (f65.X1_r κ) n s8 s9 s10 s11 s12 s13 s14 s15 := by
  intro n
  induction n with
  | zero => intros; rfl
  | succ n ih =>
    intro s8 s9 s10 s11 s12 s13 s14 s15
    rw [evLp_succ, f65.s1_eq]
    delta f65.R1
    simp only [ih]
    rfl
def f65.X0_e0 {R : Type} (κ : KX R) := fun z6 => κ (.exit 0) (f65.T0_e0 z6) (f65.H0_e0 z6)
def f65.X0_r {R : Type} (κ : KX R) := fun z102 z103 => κ .ret (f65.T0_r z102 z103) (f65.H0_r z102 z103)
def f65.R0 {R : Type} (rec : KT R) := fun s1 s2 s3 s4 s5 => rec (f65.T0 s1 s2 s3 s4 s5) (f65.H0 s1 s2 s3 s4 s5)
theorem f65.p1_e2_eq {R : Type} (L N : Nat) (κ : KX R) (rec : KT R) (z16 : LT) (z17 : Int) (z18 : LT) (z19 : LY) (z20 : LM) (z21 : LLM) :
    (contAt (E65 L N) (evCallI (E65 L N) 0 1000) 1000 65 106 2 f65.c0 (rdK (E65 L N) 1000 65 106 0 κ rec)) (.exit 2) (f65.T1_e2 z16 z17 z18 z19 z20 z21) (f65.H1_e2 z16 z17 z18 z19 z20 z21)
    = f65.p1_e2 L N (f65.X0_e0 κ) (f65.X0_r κ) (f65.R0 rec) z16 z17 z18 z19 z20 z21 := by kernel_rfl
theorem f65.p1_r_eq {R : Type} (L N : Nat) (κ : KX R) (rec : KT R) (z76 : LT) (z77 : Bool) (z78 : Int) (z79 : LT) (z80 : LY) (z81 : LM) (z82 : LLM) :
    (contAt (E65 L N) (evCallI (E65 L N) 0 1000) 1000 65 106 2 f65.c0 (rdK (E65 L N) 1000 65 106 0 κ rec)) .ret (f65.T1_r z76 z77 z78 z79 z80 z81 z82) (f65.H1_r z76 z77 z78 z79 z80 z81 z82)
    = f65.p1_r L N (f65.X0_e0 κ) (f65.X0_r κ) (f65.R0 rec) z76 z77 z78 z79 z80 z81 z82 := by kernel_rfl
theorem f65.s0_eq {R : Type} (L N : Nat) (κ : KX R) (rec : KT R) (s1 : LT) (s2 : Int) (s3 : LT) (s4 : LY) (s5 : LLM) :
    evRd (E65 L N) (evCallI (E65 L N) 0 1000) 1000 65 106 0 f65.c0 κ rec (f65.T0 s1 s2 s3 s4 s5) (f65.H0 s1 s2 s3 s4 s5)
    = f65.s0 L N (f65.X0_e0 κ) (f65.X0_r κ) (f65.R0 rec) s1 s2 s3 s4 s5 := by
  refine Eq.trans (b := f65.s0' L N (f65.X0_e0 κ) (f65.X0_r κ) (f65.R0 rec) (fun s8 s9 s10 s11 s12 s13 s14 s15 => evLp (E65 L N) (evCallI (E65 L N) 0 1000) 1000 65 106 2 f65.c1 (contAt (E65 L N) (evCallI (E65 L N) 0 1000) 1000 65 106 2 f65.c0 (rdK (E65 L N) 1000 65 106 0 κ rec)) L (f65.T1 s8 s9 s10 s11 s12 s13 s14 s15) (f65.H1 s8 s9 s10 s11 s12 s13 s14 s15)) s1 s2 s3 s4 s5) (by kernel_rfl) ?_
  unfold f65.s0
  simp only [f65.l1_eq]
  delta f65.X1_e2 f65.X1_r
  simp only [f65.p1_e2_eq, f65.p1_r_eq]
theorem f65.l0_eq {R : Type} (L N : Nat) (κ : KX R) : ∀ (n : Nat) (s1 : LT) (s2 : Int) (s3 : LT) (s4 : LY) (s5 : LLM),
    evLp (E65 L N) (evCallI (E65 L N) 0 1000) 1000 65 106 0 f65.c0 κ n (f65.T0 s1 s2 s3 s4 s5) (f65.H0 s1 s2 s3 s4 s5)
    = f65.l0 L N (f65.X0_e0 κ) (f65.X0_r κ) n s1 s2 s3 s4 s5 := by
  intro n
  induction n with
  | zero => intros; rfl
  | succ n ih =>
    intro s1 s2 s3 s4 s5
    rw [evLp_succ, f65.s0_eq]
    delta f65.R0
    simp only [ih]
    rfl
theorem f65.p0_e0_eq {R : Type} (L N : Nat) (κ : AV → Option R) (z6 : LLM) :
    (contAt (E65 L N) (evCallI (E65 L N) 0 1000) 1000 65 106 0 (codeOf Tryz.f65) (finK (E65 L N) 1000 Tryz.f65 (finC (.many [(.st 2), .bool]) κ))) (.exit 0) (f65.T0_e0 z6) (f65.H0_e0 z6)
    = f65.p0_e0 L N (fun a0 a1 => κ (.tup [(.tv (.st 2) a0), (.tv .bool a1)])) z6 := by kernel_rfl
theorem f65.p0_r_eq {R : Type} (L N : Nat) (κ : AV → Option R) (z102 : Bool) (z103 : LLM) :
    (contAt (E65 L N) (evCallI (E65 L N) 0 1000) 1000 65 106 0 (codeOf Tryz.f65) (finK (E65 L N) 1000 Tryz.f65 (finC (.many [(.st 2), .bool]) κ))) .ret (f65.T0_r z102 z103) (f65.H0_r z102 z103)
    = f65.p0_r L N (fun a0 a1 => κ (.tup [(.tv (.st 2) a0), (.tv .bool a1)])) z102 z103 := by kernel_rfl
theorem f65.b_eq {R : Type} (L N : Nat) (κ : AV → Option R) (x0 : Tree) (x1 : LT) :
    evBody (E65 L N) (evCallI (E65 L N) 0 1000) 1000 65 Tryz.f65 [(.tv (.st 1) x0), (.tv (.sl (.st 1)) x1)] [] [] (finC (.many [(.st 2), .bool]) κ)
    = f65.b L N (fun a0 a1 => κ (.tup [(.tv (.st 2) a0), (.tv .bool a1)])) x0 x1 := by
  refine Eq.trans (b := f65.b' L N (fun a0 a1 => κ (.tup [(.tv (.st 2) a0), (.tv .bool a1)])) (fun s1 s2 s3 s4 s5 => evLp (E65 L N) (evCallI (E65 L N) 0 1000) 1000 65 106 0 f65.c0 (contAt (E65 L N) (evCallI (E65 L N) 0 1000) 1000 65 106 0 (codeOf Tryz.f65) (finK (E65 L N) 1000 Tryz.f65 (finC (.many [(.st 2), .bool]) κ))) L (f65.T0 s1 s2 s3 s4 s5) (f65.H0 s1 s2 s3 s4 s5)) x0 x1) (by kernel_rfl) ?_
  unfold f65.b
  simp only [f65.l0_eq]
  delta f65.X0_e0 f65.X0_r
  simp only [f65.p0_e0_eq, f65.p0_r_eq]
theorem f65.ok (L N : Nat) (hΦ : TellsOk Tryz.prog ((Φ83 L N))) : EntOk Tryz.prog 65 (f65.ent L N) := entDa_ok (E := (E65 L N)) (dep := 1000) (f := Tryz.f65) (sound_of hΦ) okP (callI_sound (sound_of hΦ) okP 0 1000) rfl fun d _ hy => (f65.b_eq L N (unR (.many [(.st 2), .bool])) d.1 d.2.1).trans (Eq.trans (b := f65.b L N (fun a0 a1 => some (a0, a1)) d.1 d.2.1) (by kernel_rfl) hy)
def Φ65 (L N : Nat) : Tells := (addT (Φ83 L N) 65 (f65.ent L N))
theorem Φ65_ok (L N : Nat) : TellsOk Tryz.prog (Φ65 L N) := addT_ok (Φ83_ok L N) (f65.ok L N (Φ83_ok L N))
def f37.b' {R : Type} (L N : Nat) (k : Graph → Bool → Option R) (x0 : Tree) (x1 : LT) : Option R :=
  (f64 L N (Tree.mk x0.op x0.n x0.parts) x1).bind fun y0 =>
  bif (!y0) then
    k (Graph.mk []) false
  else (f65 L N (Tree.mk x0.op x0.n x0.parts) x1).bind fun y1 =>
  k (Graph.mk y1.1.moves) y1.2
def f37.b {R : Type} (L N : Nat) (k : Graph → Bool → Option R) (x0 : Tree) (x1 : LT) : Option R :=
  f37.b' L N k x0 x1
def f37 (L N : Nat) (x0 : Tree) (x1 : LT) : Option (Graph × Bool) := f37.b L N (fun a0 a1 => some (a0, a1)) x0 x1
def f37.ent (L N : Nat) := entDa [(.st 1), (.sl (.st 1))] (.many [(.st 2), .bool]) fun d => f37 L N d.1 d.2.1
noncomputable def E37 (L N : Nat) : Env := { P := Tryz.prog, ty := tyOf, Φ := (Φ65 L N), inl := inlT, live := lives, liveX := livesX, L := L, dp := none, prom := promT, heal := healT, ren := renT }
theorem f37.b_eq {R : Type} (L N : Nat) (κ : AV → Option R) (x0 : Tree) (x1 : LT) :
    evBody (E37 L N) (evCallI (E37 L N) 0 1000) 1000 37 Tryz.f37 [(.tv (.st 1) x0), (.tv (.sl (.st 1)) x1)] [] [] (finC (.many [(.st 2), .bool]) κ)
    = f37.b L N (fun a0 a1 => κ (.tup [(.tv (.st 2) a0), (.tv .bool a1)])) x0 x1 := by kernel_rfl
theorem f37.ok (L N : Nat) (hΦ : TellsOk Tryz.prog ((Φ65 L N))) : EntOk Tryz.prog 37 (f37.ent L N) := entDa_ok (E := (E37 L N)) (dep := 1000) (f := Tryz.f37) (sound_of hΦ) okP (callI_sound (sound_of hΦ) okP 0 1000) rfl fun d _ hy => (f37.b_eq L N (unR (.many [(.st 2), .bool])) d.1 d.2.1).trans (Eq.trans (b := f37.b L N (fun a0 a1 => some (a0, a1)) d.1 d.2.1) (by kernel_rfl) hy)
def Φ37 (L N : Nat) : Tells := (addT (Φ65 L N) 37 (f37.ent L N))
theorem Φ37_ok (L N : Nat) : TellsOk Tryz.prog (Φ37 L N) := addT_ok (Φ65_ok L N) (f37.ok L N (Φ65_ok L N))
def f38.j0' {R : Type} (L N : Nat) (k1_e2 : Int → Bool → Int → LI → Int → LM → LLM → LLM → Option R) (rec1 : Int → Bool → Int → Int → LI → Int → LM → LLM → LLM → Option R) (v34 : Int) (v35 : Bool) (v36 : Int) (v37 : Int) (v38 : Int) (v39 : LI) (v40 : Int) (v41 : LM) (v42 : LLM) (v43 : LLM) : Option R :=
  (f35 L N v39 v40 v34).bind fun y44 =>
  bif (decide (v41.length + ([(Move.mk v38 y44.1)] : LM).length ≤ lim)) then
    rec1 v34 v35 v36 (wi (v37 - (1 : Int))) y44.2.1 y44.2.2 (v41 ++ ([(Move.mk v38 y44.1)] : LM)) v42 v43
  else none
def f38.s1' {R : Type} (L N : Nat) (k1_e2 : Int → Bool → Int → LI → Int → LM → LLM → LLM → Option R) (rec1 : Int → Bool → Int → Int → LI → Int → LM → LLM → LLM → Option R) (s15 : Int) (s16 : Bool) (s17 : Int) (s18 : Int) (s19 : LI) (s20 : Int) (s21 : LM) (s22 : LLM) (s23 : LLM) : Option R :=
  bif (decide (s18 > (0 : Int))) then
    (f35 L N s19 s20 (3 : Int)).bind fun y32 =>
    bif (!s16) then
      (f66 L N y32.2.1 y32.2.2).bind fun y33 =>
      f38.j0' L N k1_e2 rec1 s15 s16 s17 s18 y33.1 y33.2.1 y33.2.2 s21 s22 s23
    else f38.j0' L N k1_e2 rec1 s15 s16 s17 s18 y32.1 y32.2.1 y32.2.2 s21 s22 s23
  else k1_e2 s15 s16 s17 s19 s20 s21 s22 s23
def f38.s1 {R : Type} (L N : Nat) (k1_e2 : Int → Bool → Int → LI → Int → LM → LLM → LLM → Option R) (rec1 : Int → Bool → Int → Int → LI → Int → LM → LLM → LLM → Option R) (s15 : Int) (s16 : Bool) (s17 : Int) (s18 : Int) (s19 : LI) (s20 : Int) (s21 : LM) (s22 : LLM) (s23 : LLM) : Option R :=
  f38.s1' L N k1_e2 rec1 s15 s16 s17 s18 s19 s20 s21 s22 s23
def f38.l1 {R : Type} (L N : Nat) (k1_e2 : Int → Bool → Int → LI → Int → LM → LLM → LLM → Option R) : Nat → Int → Bool → Int → Int → LI → Int → LM → LLM → LLM → Option R
  | 0, _, _, _, _, _, _, _, _, _ => none
  | n + 1, s15, s16, s17, s18, s19, s20, s21, s22, s23 => f38.s1 L N k1_e2 (f38.l1 L N k1_e2 n) s15 s16 s17 s18 s19 s20 s21 s22 s23
def f38.T1 (s15 : Int) (s16 : Bool) (s17 : Int) (s18 : Int) (s19 : LI) (s20 : Int) (s21 : LM) (s22 : LLM) (s23 : LLM) : T := mkT 84 [(0, (.ptr 0 0)), (4, (.ptr 1004 0)), (5, (.ptr 1005 0)), (6, (.tv i64 s15)), (7, (.tv .bool s16)), (8, (.tv i64 s17)), (9, (.row 1025)), (10, (.tv i64 s18))] ++ [.ptr 0 0]
def f38.H1 (s15 : Int) (s16 : Bool) (s17 : Int) (s18 : Int) (s19 : LI) (s20 : Int) (s21 : LM) (s22 : LLM) (s23 : LLM) : H := [(0, (.box [(.tv (.sl (.int .u8)) s19), (.tv i64 s20)])), (1004, (.box [(.row 1900)])), (1005, (.box [(.row 1901)])), (1025, (.row 50 (.st 0) s21)), (1900, (.deep 0 (.sl (.st 0)) s22 none)), (1901, (.deep 0 (.sl (.st 0)) s23 none))]
def f38.T1_e2 (z24 : Int) (z25 : Bool) (z26 : Int) (z27 : LI) (z28 : Int) (z29 : LM) (z30 : LLM) (z31 : LLM) : T := mkT 84 [(0, (.ptr 0 0)), (4, (.ptr 1004 0)), (5, (.ptr 1005 0)), (6, (.tv i64 z24)), (7, (.tv .bool z25)), (8, (.tv i64 z26)), (9, (.row 1025))] ++ [.ptr 0 0]
def f38.H1_e2 (z24 : Int) (z25 : Bool) (z26 : Int) (z27 : LI) (z28 : Int) (z29 : LM) (z30 : LLM) (z31 : LLM) : H := [(0, (.box [(.tv (.sl (.int .u8)) z27), (.tv i64 z28)])), (1004, (.box [(.row 1900)])), (1005, (.box [(.row 1901)])), (1025, (.row 50 (.st 0) z29)), (1900, (.deep 0 (.sl (.st 0)) z30 none)), (1901, (.deep 0 (.sl (.st 0)) z31 none))]
def f38.p1_e2' {R : Type} (L N : Nat) (k0_e0 : Int → LI → Int → LLM → LLM → Option R) (rec0 : Int → Bool → Int → LI → Int → LLM → LLM → Option R) (z24 : Int) (z25 : Bool) (z26 : Int) (z27 : LI) (z28 : Int) (z29 : LM) (z30 : LLM) (z31 : LLM) : Option R :=
  (f67 L N z29).bind fun y45 =>
  bif (decide (z31.length + ([y45] : LLM).length ≤ lim)) then
    rec0 z24 z25 (wi (z26 + (1 : Int))) z27 z28 z30 (z31 ++ ([y45] : LLM))
  else none
def f38.p1_e2 {R : Type} (L N : Nat) (k0_e0 : Int → LI → Int → LLM → LLM → Option R) (rec0 : Int → Bool → Int → LI → Int → LLM → LLM → Option R) (z24 : Int) (z25 : Bool) (z26 : Int) (z27 : LI) (z28 : Int) (z29 : LM) (z30 : LLM) (z31 : LLM) : Option R :=
  f38.p1_e2' L N k0_e0 rec0 z24 z25 z26 z27 z28 z29 z30 z31
def f38.s0' {R : Type} (L N : Nat) (k0_e0 : Int → LI → Int → LLM → LLM → Option R) (rec0 : Int → Bool → Int → LI → Int → LLM → LLM → Option R) (w1 : Int → Bool → Int → Int → LI → Int → LM → LLM → LLM → Option R) (s2 : Int) (s3 : Bool) (s4 : Int) (s5 : LI) (s6 : Int) (s7 : LLM) (s8 : LLM) : Option R :=
  bif (decide (s4 < s2)) then
    (f35 L N s5 s6 (4 : Int)).bind fun y14 =>
    w1 s2 s3 s4 y14.1 y14.2.1 y14.2.2 ([] : LM) s7 s8
  else k0_e0 s2 s5 s6 s7 s8
def f38.s0 {R : Type} (L N : Nat) (k0_e0 : Int → LI → Int → LLM → LLM → Option R) (rec0 : Int → Bool → Int → LI → Int → LLM → LLM → Option R) (s2 : Int) (s3 : Bool) (s4 : Int) (s5 : LI) (s6 : Int) (s7 : LLM) (s8 : LLM) : Option R :=
  f38.s0' L N k0_e0 rec0 (fun s15 s16 s17 s18 s19 s20 s21 s22 s23 => f38.l1 L N (fun z24 z25 z26 z27 z28 z29 z30 z31 => f38.p1_e2 L N k0_e0 rec0 z24 z25 z26 z27 z28 z29 z30 z31) L s15 s16 s17 s18 s19 s20 s21 s22 s23) s2 s3 s4 s5 s6 s7 s8
def f38.l0 {R : Type} (L N : Nat) (k0_e0 : Int → LI → Int → LLM → LLM → Option R) : Nat → Int → Bool → Int → LI → Int → LLM → LLM → Option R
  | 0, _, _, _, _, _, _, _ => none
  | n + 1, s2, s3, s4, s5, s6, s7, s8 => f38.s0 L N k0_e0 (f38.l0 L N k0_e0 n) s2 s3 s4 s5 s6 s7 s8
def f38.T0 (s2 : Int) (s3 : Bool) (s4 : Int) (s5 : LI) (s6 : Int) (s7 : LLM) (s8 : LLM) : T := mkT 84 [(0, (.ptr 0 0)), (4, (.ptr 1004 0)), (5, (.ptr 1005 0)), (6, (.tv i64 s2)), (7, (.tv .bool s3)), (8, (.tv i64 s4))] ++ [.ptr 0 0]
def f38.H0 (s2 : Int) (s3 : Bool) (s4 : Int) (s5 : LI) (s6 : Int) (s7 : LLM) (s8 : LLM) : H := [(0, (.box [(.tv (.sl (.int .u8)) s5), (.tv i64 s6)])), (1004, (.box [(.row 1900)])), (1005, (.box [(.row 1901)])), (1900, (.deep 0 (.sl (.st 0)) s7 none)), (1901, (.deep 0 (.sl (.st 0)) s8 none))]
def f38.T0_e0 (z9 : Int) (z10 : LI) (z11 : Int) (z12 : LLM) (z13 : LLM) : T := mkT 84 [(0, (.ptr 0 0)), (4, (.ptr 1004 0)), (5, (.ptr 1005 0)), (6, (.tv i64 z9))] ++ [.ptr 0 0]
def f38.H0_e0 (z9 : Int) (z10 : LI) (z11 : Int) (z12 : LLM) (z13 : LLM) : H := [(0, (.box [(.tv (.sl (.int .u8)) z10), (.tv i64 z11)])), (1004, (.box [(.row 1900)])), (1005, (.box [(.row 1901)])), (1900, (.deep 0 (.sl (.st 0)) z12 none)), (1901, (.deep 0 (.sl (.st 0)) z13 none))]
def f38.p0_e0' {R : Type} (L N : Nat) (k : Graph → LI → Int → Option R) (z9 : Int) (z10 : LI) (z11 : Int) (z12 : LLM) (z13 : LLM) : Option R :=
  (f35 L N z10 z11 (30 : Int)).bind fun y46 =>
  bif (y46.1 == (0 : Int)) then
    bif (decide (0 ≤ (0 : Int)) && decide ((0 : Int) < (z13.length : Int))) then
      bif (decide ((listAt z13 [] (0 : Int).toNat).length + ([(Move.mk (9 : Int) (0 : Int))] : LM).length ≤ lim)) then
        bif (decide (0 ≤ (0 : Int)) && decide ((0 : Int) < (z13.length : Int))) then
          k (Graph.mk (z13.set ((0 : Int).toNat) ((listAt z13 [] (0 : Int).toNat) ++ ([(Move.mk (9 : Int) (0 : Int))] : LM)))) y46.2.1 y46.2.2
        else none
      else none
    else none
  else bif (y46.1 == (1 : Int)) then
    bif (decide (0 ≤ (0 : Int)) && decide ((0 : Int) < (z13.length : Int))) then
      bif (decide ((listAt z13 [] (0 : Int).toNat).length + ([(Move.mk (0 : Int) z9)] : LM).length ≤ lim)) then
        bif (decide (0 ≤ (0 : Int)) && decide ((0 : Int) < (z13.length : Int))) then
          k (Graph.mk (z13.set ((0 : Int).toNat) ((listAt z13 [] (0 : Int).toNat) ++ ([(Move.mk (0 : Int) z9)] : LM)))) y46.2.1 y46.2.2
        else none
      else none
    else none
  else bif (y46.1 == (2 : Int)) then
    k (Graph.mk []) y46.2.1 y46.2.2
  else k (Graph.mk z13) y46.2.1 y46.2.2
def f38.p0_e0 {R : Type} (L N : Nat) (k : Graph → LI → Int → Option R) (z9 : Int) (z10 : LI) (z11 : Int) (z12 : LLM) (z13 : LLM) : Option R :=
  f38.p0_e0' L N k z9 z10 z11 z12 z13
def f38.b' {R : Type} (L N : Nat) (k : Graph → LI → Int → Option R) (w0 : Int → Bool → Int → LI → Int → LLM → LLM → Option R) (c0 : LI) (c1 : Int) (x0 : Int) : Option R :=
  (f35 L N c0 c1 x0).bind fun y0 =>
  (f35 L N y0.2.1 y0.2.2 (2 : Int)).bind fun y1 =>
  w0 (wi ((1 : Int) + y0.1)) (y1.1 == (0 : Int)) (0 : Int) y1.2.1 y1.2.2 ([] : LLM) ([] : LLM)
def f38.b {R : Type} (L N : Nat) (k : Graph → LI → Int → Option R) (c0 : LI) (c1 : Int) (x0 : Int) : Option R :=
  f38.b' L N k (fun s2 s3 s4 s5 s6 s7 s8 => f38.l0 L N (fun z9 z10 z11 z12 z13 => f38.p0_e0 L N k z9 z10 z11 z12 z13) L s2 s3 s4 s5 s6 s7 s8) c0 c1 x0
def f38 (L N : Nat) (c0 : LI) (c1 : Int) (x0 : Int) : Option (Graph × LI × Int) := f38.b L N (fun a0 a1 a2 => some (a0, a1, a2)) c0 c1 x0
def f38.ent (L N : Nat) (args : List AV) (vw : View) (site : Nat) : Ans := match boxD [(.sl (.int .u8)), i64] [i64] vw args with
  | some (o, d0, d, u) => ⟨Graph × LI × Int, f38 L N d0.1 d0.2.1 d.1, fun y => ((.tv (.st 2) y.1), u ++ [(o, some (.box [(.tv (.sl (.int .u8)) y.2.1), (.tv i64 y.2.2)]))], [])⟩
  | none => Ans.no
noncomputable def E38 (L N : Nat) : Env := { P := Tryz.prog, ty := tyOf, Φ := (Φ37 L N), inl := inlT, live := lives, liveX := livesX, L := L, dp := (some 0), prom := promT, heal := healT, ren := renT, fresh := fun s => Nat.beq s 1065 || Nat.beq s 1078 }
noncomputable def f38.c0 : Code := loopAt 0 (codeOf Tryz.f38)
noncomputable def f38.c1 : Code := loopAt 2 f38.c0
def f38.X1_e2 {R : Type} (κ : KX R) := fun z24 z25 z26 z27 z28 z29 z30 z31 => κ (.exit 2) (f38.T1_e2 z24 z25 z26 z27 z28 z29 z30 z31) (f38.H1_e2 z24 z25 z26 z27 z28 z29 z30 z31)
def f38.R1 {R : Type} (rec : KT R) := fun s15 s16 s17 s18 s19 s20 s21 s22 s23 => rec (f38.T1 s15 s16 s17 s18 s19 s20 s21 s22 s23) (f38.H1 s15 s16 s17 s18 s19 s20 s21 s22 s23)
theorem f38.s1_eq {R : Type} (L N : Nat) (κ : KX R) (rec : KT R) (s15 : Int) (s16 : Bool) (s17 : Int) (s18 : Int) (s19 : LI) (s20 : Int) (s21 : LM) (s22 : LLM) (s23 : LLM) :
    evRd (E38 L N) (evCallI (E38 L N) 0 1000) 1000 38 84 2 f38.c1 κ rec (f38.T1 s15 s16 s17 s18 s19 s20 s21 s22 s23) (f38.H1 s15 s16 s17 s18 s19 s20 s21 s22 s23)
    = f38.s1 L N (f38.X1_e2 κ) (f38.R1 rec) s15 s16 s17 s18 s19 s20 s21 s22 s23 := by kernel_rfl
theorem f38.l1_eq {R : Type} (L N : Nat) (κ : KX R) : ∀ (n : Nat) (s15 : Int) (s16 : Bool) (s17 : Int) (s18 : Int) (s19 : LI) (s20 : Int) (s21 : LM) (s22 : LLM) (s23 : LLM),
    evLp (E38 L N) (evCallI (E38 L N) 0 1000) 1000 38 84 2 f38.c1 κ n (f38.T1 s15 s16 s17 s18 s19 s20 s21 s22 s23) (f38.H1 s15 s16 s17 s18 s19 s20 s21 s22 s23)
    = f38.l1 L N (f38.X1_e2 κ) n s15 s16 s17 s18 s19 s20 s21 s22 s23 := by
  intro n
  induction n with
  | zero => intros; rfl
  | succ n ih =>
    intro s15 s16 s17 s18 s19 s20 s21 s22 s23
    rw [evLp_succ, f38.s1_eq]
    delta f38.R1
    simp only [ih]
    rfl
def f38.X0_e0 {R : Type} (κ : KX R) := fun z9 z10 z11 z12 z13 => κ (.exit 0) (f38.T0_e0 z9 z10 z11 z12 z13) (f38.H0_e0 z9 z10 z11 z12 z13)
def f38.R0 {R : Type} (rec : KT R) := fun s2 s3 s4 s5 s6 s7 s8 => rec (f38.T0 s2 s3 s4 s5 s6 s7 s8) (f38.H0 s2 s3 s4 s5 s6 s7 s8)
theorem f38.p1_e2_eq {R : Type} (L N : Nat) (κ : KX R) (rec : KT R) (z24 : Int) (z25 : Bool) (z26 : Int) (z27 : LI) (z28 : Int) (z29 : LM) (z30 : LLM) (z31 : LLM) :
    (contAt (E38 L N) (evCallI (E38 L N) 0 1000) 1000 38 84 2 f38.c0 (rdK (E38 L N) 1000 38 84 0 κ rec)) (.exit 2) (f38.T1_e2 z24 z25 z26 z27 z28 z29 z30 z31) (f38.H1_e2 z24 z25 z26 z27 z28 z29 z30 z31)
    = f38.p1_e2 L N (f38.X0_e0 κ) (f38.R0 rec) z24 z25 z26 z27 z28 z29 z30 z31 := by kernel_rfl
theorem f38.s0_eq {R : Type} (L N : Nat) (κ : KX R) (rec : KT R) (s2 : Int) (s3 : Bool) (s4 : Int) (s5 : LI) (s6 : Int) (s7 : LLM) (s8 : LLM) :
    evRd (E38 L N) (evCallI (E38 L N) 0 1000) 1000 38 84 0 f38.c0 κ rec (f38.T0 s2 s3 s4 s5 s6 s7 s8) (f38.H0 s2 s3 s4 s5 s6 s7 s8)
    = f38.s0 L N (f38.X0_e0 κ) (f38.R0 rec) s2 s3 s4 s5 s6 s7 s8 := by
  refine Eq.trans (b := f38.s0' L N (f38.X0_e0 κ) (f38.R0 rec) (fun s15 s16 s17 s18 s19 s20 s21 s22 s23 => evLp (E38 L N) (evCallI (E38 L N) 0 1000) 1000 38 84 2 f38.c1 (contAt (E38 L N) (evCallI (E38 L N) 0 1000) 1000 38 84 2 f38.c0 (rdK (E38 L N) 1000 38 84 0 κ rec)) L (f38.T1 s15 s16 s17 s18 s19 s20 s21 s22 s23) (f38.H1 s15 s16 s17 s18 s19 s20 s21 s22 s23)) s2 s3 s4 s5 s6 s7 s8) (by kernel_rfl) ?_
  unfold f38.s0
  simp only [f38.l1_eq]
  delta f38.X1_e2
  simp only [f38.p1_e2_eq]
theorem f38.l0_eq {R : Type} (L N : Nat) (κ : KX R) : ∀ (n : Nat) (s2 : Int) (s3 : Bool) (s4 : Int) (s5 : LI) (s6 : Int) (s7 : LLM) (s8 : LLM),
    evLp (E38 L N) (evCallI (E38 L N) 0 1000) 1000 38 84 0 f38.c0 κ n (f38.T0 s2 s3 s4 s5 s6 s7 s8) (f38.H0 s2 s3 s4 s5 s6 s7 s8)
    = f38.l0 L N (f38.X0_e0 κ) n s2 s3 s4 s5 s6 s7 s8 := by
  intro n
  induction n with
  | zero => intros; rfl
  | succ n ih =>
    intro s2 s3 s4 s5 s6 s7 s8
    rw [evLp_succ, f38.s0_eq]
    delta f38.R0
    simp only [ih]
    rfl
theorem f38.p0_e0_eq {R : Type} (L N : Nat) (κ : AV → Dens [(.sl (.int .u8)), i64] → Option R) (z9 : Int) (z10 : LI) (z11 : Int) (z12 : LLM) (z13 : LLM) :
    (contAt (E38 L N) (evCallI (E38 L N) 0 1000) 1000 38 84 0 (codeOf Tryz.f38) (finK (E38 L N) 1000 Tryz.f38 (finM (.one (.st 2)) [(.sl (.int .u8)), i64] κ))) (.exit 0) (f38.T0_e0 z9 z10 z11 z12 z13) (f38.H0_e0 z9 z10 z11 z12 z13)
    = f38.p0_e0 L N (fun a0 a1 a2 => κ (.tv (.st 2) a0) (a1, a2, ())) z9 z10 z11 z12 z13 := by kernel_rfl
theorem f38.b_eq {R : Type} (L N : Nat) (κ : AV → Dens [(.sl (.int .u8)), i64] → Option R) (c0 : LI) (c1 : Int) (x0 : Int) :
    evBody (E38 L N) (evCallI (E38 L N) 0 1000) 1000 38 Tryz.f38 [(.ptr 0 0), (.tv i64 x0)] [.ptr 0 0] [(0, (.box [(.tv (.sl (.int .u8)) c0), (.tv i64 c1)]))] (finM (.one (.st 2)) [(.sl (.int .u8)), i64] κ)
    = f38.b L N (fun a0 a1 a2 => κ (.tv (.st 2) a0) (a1, a2, ())) c0 c1 x0 := by
  refine Eq.trans (b := f38.b' L N (fun a0 a1 a2 => κ (.tv (.st 2) a0) (a1, a2, ())) (fun s2 s3 s4 s5 s6 s7 s8 => evLp (E38 L N) (evCallI (E38 L N) 0 1000) 1000 38 84 0 f38.c0 (contAt (E38 L N) (evCallI (E38 L N) 0 1000) 1000 38 84 0 (codeOf Tryz.f38) (finK (E38 L N) 1000 Tryz.f38 (finM (.one (.st 2)) [(.sl (.int .u8)), i64] κ))) L (f38.T0 s2 s3 s4 s5 s6 s7 s8) (f38.H0 s2 s3 s4 s5 s6 s7 s8)) c0 c1 x0) (by kernel_rfl) ?_
  unfold f38.b
  simp only [f38.l0_eq]
  delta f38.X0_e0
  simp only [f38.p0_e0_eq]
theorem f38.ok (L N : Nat) (hΦ : TellsOk Tryz.prog ((Φ37 L N))) : EntOk Tryz.prog 38 (f38.ent L N) := by
  intro args vw site h
  unfold f38.ent
  split
  · rename_i o d0 d u ha
    intro y hy hs
    obtain ⟨rest, cs, rfl, ho, hd0, hr, hu⟩ := boxD_some ha
    refine call_box (y := y) (dep := 1000) (v' := (.tv (.st 2) y.1)) (d1 := (y.2.1, y.2.2, ())) (E := (E38 L N)) (ts := [(.sl (.int .u8)), i64]) (tr := [i64]) (rs := (.one (.st 2))) (κ := (fun v d => (unR (.one (.st 2)) v).bind fun x => some (x, d.1, d.2.1))) (sound_of hΦ) okP (callI_sound (sound_of hΦ) okP 0 1000) (f := Tryz.f38) rfl hs ho hd0 hr hu ?_ (fun _ _ h => by obtain ⟨x, h1, h2⟩ := unR_bind h; obtain rfl := Option.some.inj h2; exact ⟨h1, rfl⟩) site
    exact (f38.b_eq L N (fun v d => (unR (.one (.st 2)) v).bind fun x => some (x, d.1, d.2.1)) d0.1 d0.2.1 d.1).trans (Eq.trans (b := f38.b L N (fun a0 a1 a2 => some (a0, a1, a2)) d0.1 d0.2.1 d.1) (by kernel_rfl) hy)
  · intro y hy
    cases hy
def Φ38 (L N : Nat) : Tells := (addT (Φ37 L N) 38 (f38.ent L N))
theorem Φ38_ok (L N : Nat) : TellsOk Tryz.prog (Φ38 L N) := addT_ok (Φ37_ok L N) (f38.ok L N (Φ37_ok L N))
def f14.b' {R : Type} (L N : Nat) (k : Graph → LI → Int → Option R) (c0 : LI) (c1 : Int) : Option R :=
  (f35 L N c0 c1 (2 : Int)).bind fun y0 =>
  bif (y0.1 == (0 : Int)) then
    (f36 L N y0.2.1 y0.2.2).bind fun y1 =>
    (f37 L N (Tree.mk y1.1.op y1.1.n y1.1.parts) y1.2.1).bind fun y2 =>
    bif y2.2 then
      k (Graph.mk ((Graph.mk y2.1.moves).moves)) y1.2.2.1 y1.2.2.2
    else (f38 L N y1.2.2.1 y1.2.2.2 (6 : Int)).bind fun y6 =>
    k (Graph.mk y6.1.moves) y6.2.1 y6.2.2
  else (f38 L N y0.2.1 y0.2.2 (6 : Int)).bind fun y7 =>
  k (Graph.mk y7.1.moves) y7.2.1 y7.2.2
def f14.b {R : Type} (L N : Nat) (k : Graph → LI → Int → Option R) (c0 : LI) (c1 : Int) : Option R :=
  f14.b' L N k c0 c1
def f14 (L N : Nat) (c0 : LI) (c1 : Int) : Option (Graph × LI × Int) := f14.b L N (fun a0 a1 a2 => some (a0, a1, a2)) c0 c1
def f14.ent (L N : Nat) (args : List AV) (vw : View) (site : Nat) : Ans := match boxD [(.sl (.int .u8)), i64] [] vw args with
  | some (o, d0, d, u) => ⟨Graph × LI × Int, f14 L N d0.1 d0.2.1, fun y => ((.tv (.st 2) y.1), u ++ [(o, some (.box [(.tv (.sl (.int .u8)) y.2.1), (.tv i64 y.2.2)]))], [])⟩
  | none => Ans.no
noncomputable def E14 (L N : Nat) : Env := { P := Tryz.prog, ty := tyOf, Φ := (Φ38 L N), inl := inlT, live := lives, liveX := livesX, L := L, dp := none, prom := promT, heal := healT, ren := renT }
theorem f14.b_eq {R : Type} (L N : Nat) (κ : AV → Dens [(.sl (.int .u8)), i64] → Option R) (c0 : LI) (c1 : Int) :
    evBody (E14 L N) (evCallI (E14 L N) 0 1000) 1000 14 Tryz.f14 [(.ptr 0 0)] [.ptr 0 0] [(0, (.box [(.tv (.sl (.int .u8)) c0), (.tv i64 c1)]))] (finM (.one (.st 2)) [(.sl (.int .u8)), i64] κ)
    = f14.b L N (fun a0 a1 a2 => κ (.tv (.st 2) a0) (a1, a2, ())) c0 c1 := by kernel_rfl
theorem f14.ok (L N : Nat) (hΦ : TellsOk Tryz.prog ((Φ38 L N))) : EntOk Tryz.prog 14 (f14.ent L N) := by
  intro args vw site h
  unfold f14.ent
  split
  · rename_i o d0 d u ha
    intro y hy hs
    obtain ⟨rest, cs, rfl, ho, hd0, hr, hu⟩ := boxD_some ha
    refine call_box (y := y) (dep := 1000) (v' := (.tv (.st 2) y.1)) (d1 := (y.2.1, y.2.2, ())) (E := (E14 L N)) (ts := [(.sl (.int .u8)), i64]) (tr := []) (rs := (.one (.st 2))) (κ := (fun v d => (unR (.one (.st 2)) v).bind fun x => some (x, d.1, d.2.1))) (sound_of hΦ) okP (callI_sound (sound_of hΦ) okP 0 1000) (f := Tryz.f14) rfl hs ho hd0 hr hu ?_ (fun _ _ h => by obtain ⟨x, h1, h2⟩ := unR_bind h; obtain rfl := Option.some.inj h2; exact ⟨h1, rfl⟩) site
    exact (f14.b_eq L N (fun v d => (unR (.one (.st 2)) v).bind fun x => some (x, d.1, d.2.1)) d0.1 d0.2.1).trans (Eq.trans (b := f14.b L N (fun a0 a1 a2 => some (a0, a1, a2)) d0.1 d0.2.1) (by kernel_rfl) hy)
  · intro y hy
    cases hy
def Φ14 (L N : Nat) : Tells := (addT (Φ38 L N) 14 (f14.ent L N))
theorem Φ14_ok (L N : Nat) : TellsOk Tryz.prog (Φ14 L N) := addT_ok (Φ38_ok L N) (f14.ok L N (Φ38_ok L N))
def f15.j1' {R : Type} (L N : Nat) (k0_e0 : LI → Int → LI → Option R) (rec0 : Int → Int → LI → Int → LLM → LI → Option R) (v29 : Int) (v30 : Int) (v31 : Int) (v32 : Bool) (v33 : LI) (v34 : Int) (v35 : LLM) (v36 : LI) : Option R :=
  bif v32 then
    bif (decide (v36.length + ([v31] : LI).length ≤ lim)) then
      rec0 v29 (wi (v30 - (1 : Int))) v33 v34 v35 (v36 ++ ([v31] : LI))
    else none
  else rec0 v29 (wi (v30 - (1 : Int))) v33 v34 v35 v36
def f15.j2' {R : Type} (L N : Nat) (k0_e0 : LI → Int → LI → Option R) (rec0 : Int → Int → LI → Int → LLM → LI → Option R) (v21 : Int) (v22 : Int) (v23 : Int) (v24 : LI) (v25 : Int) (v26 : LLM) (v27 : LI) : Option R :=
  bif (v23 != (0 : Int)) then
    f15.j1' L N k0_e0 rec0 v21 v22 v23 true v24 v25 v26 v27
  else (f35 L N v24 v25 (20 : Int)).bind fun y28 =>
  f15.j1' L N k0_e0 rec0 v21 v22 v23 (y28.1 == (0 : Int)) y28.2.1 y28.2.2 v26 v27
def f15.j0' {R : Type} (L N : Nat) (k0_e0 : LI → Int → LI → Option R) (rec0 : Int → Int → LI → Int → LLM → LI → Option R) (v12 : Int) (v13 : Int) (v14 : Int) (v15 : Bool) (v16 : LI) (v17 : Int) (v18 : LLM) (v19 : LI) : Option R :=
  bif v15 then
    bif (decide (0 ≤ v12) && decide (v12 < (v18.length : Int))) then
      bif (decide (0 ≤ v12) && decide (v12 < (v18.length : Int))) then
        (f35 L N v16 v17 ((listAt v18 [] v12.toNat).length : Int)).bind fun y20 =>
        bif (decide (0 ≤ y20.1) && decide (y20.1 < ((listAt v18 [] v12.toNat).length : Int))) then
          f15.j2' L N k0_e0 rec0 ((listAt (listAt v18 [] v12.toNat) (Ty.dflt (.st 0)) y20.1.toNat).to) v13 ((listAt (listAt v18 [] v12.toNat) (Ty.dflt (.st 0)) y20.1.toNat).act) y20.2.1 y20.2.2 v18 v19
        else none
      else none
    else none
  else f15.j2' L N k0_e0 rec0 v12 v13 v14 v16 v17 v18 v19
def f15.s0' {R : Type} (L N : Nat) (k0_e0 : LI → Int → LI → Option R) (rec0 : Int → Int → LI → Int → LLM → LI → Option R) (s1 : Int) (s2 : Int) (s3 : LI) (s4 : Int) (s5 : LLM) (s6 : LI) : Option R :=
  bif (decide (s2 > (0 : Int))) then
    (f35 L N s3 s4 (5 : Int)).bind fun y10 =>
    bif (decide (s1 < (s5.length : Int))) then
      bif (decide (0 ≤ s1) && decide (s1 < (s5.length : Int))) then
        bif (decide (((listAt s5 [] s1.toNat).length : Int) > (0 : Int))) then
          (f35 L N y10.2.1 y10.2.2 (6 : Int)).bind fun y11 =>
          f15.j0' L N k0_e0 rec0 s1 s2 (wi (y10.1 - (2 : Int))) (decide (y11.1 > (0 : Int))) y11.2.1 y11.2.2 s5 s6
        else f15.j0' L N k0_e0 rec0 s1 s2 (wi (y10.1 - (2 : Int))) false y10.2.1 y10.2.2 s5 s6
      else none
    else f15.j0' L N k0_e0 rec0 s1 s2 (wi (y10.1 - (2 : Int))) false y10.2.1 y10.2.2 s5 s6
  else k0_e0 s3 s4 s6
def f15.s0 {R : Type} (L N : Nat) (k0_e0 : LI → Int → LI → Option R) (rec0 : Int → Int → LI → Int → LLM → LI → Option R) (s1 : Int) (s2 : Int) (s3 : LI) (s4 : Int) (s5 : LLM) (s6 : LI) : Option R :=
  f15.s0' L N k0_e0 rec0 s1 s2 s3 s4 s5 s6
def f15.l0 {R : Type} (L N : Nat) (k0_e0 : LI → Int → LI → Option R) : Nat → Int → Int → LI → Int → LLM → LI → Option R
  | 0, _, _, _, _, _, _ => none
  | n + 1, s1, s2, s3, s4, s5, s6 => f15.s0 L N k0_e0 (f15.l0 L N k0_e0 n) s1 s2 s3 s4 s5 s6
def f15.T0 (s1 : Int) (s2 : Int) (s3 : LI) (s4 : Int) (s5 : LLM) (s6 : LI) : T := mkT 70 [(0, (.ptr 0 0)), (3, (.ptr 1003 0)), (5, (.row 1010)), (6, (.tv i64 s1)), (7, (.tv i64 s2))] ++ [.ptr 0 0]
def f15.H0 (s1 : Int) (s2 : Int) (s3 : LI) (s4 : Int) (s5 : LLM) (s6 : LI) : H := [(0, (.box [(.tv (.sl (.int .u8)) s3), (.tv i64 s4)])), (1003, (.box [(.tv (.sl (.sl (.st 0))) s5)])), (1010, (.row 3 i64 s6))]
def f15.T0_e0 (z7 : LI) (z8 : Int) (z9 : LI) : T := mkT 70 [(5, (.row 1010))] ++ [.ptr 0 0]
def f15.H0_e0 (z7 : LI) (z8 : Int) (z9 : LI) : H := [(0, (.box [(.tv (.sl (.int .u8)) z7), (.tv i64 z8)])), (1010, (.row 3 i64 z9))]
def f15.p0_e0' {R : Type} (L N : Nat) (k : LI → LI → Int → Option R) (z7 : LI) (z8 : Int) (z9 : LI) : Option R :=
  k z9 z7 z8
def f15.p0_e0 {R : Type} (L N : Nat) (k : LI → LI → Int → Option R) (z7 : LI) (z8 : Int) (z9 : LI) : Option R :=
  f15.p0_e0' L N k z7 z8 z9
def f15.b' {R : Type} (L N : Nat) (k : LI → LI → Int → Option R) (w0 : Int → Int → LI → Int → LLM → LI → Option R) (c0 : LI) (c1 : Int) (x0 : Graph) : Option R :=
  (f35 L N c0 c1 (6 : Int)).bind fun y0 =>
  w0 (0 : Int) y0.1 y0.2.1 y0.2.2 x0.moves ([] : LI)
def f15.b {R : Type} (L N : Nat) (k : LI → LI → Int → Option R) (c0 : LI) (c1 : Int) (x0 : Graph) : Option R :=
  f15.b' L N k (fun s1 s2 s3 s4 s5 s6 => f15.l0 L N (fun z7 z8 z9 => f15.p0_e0 L N k z7 z8 z9) L s1 s2 s3 s4 s5 s6) c0 c1 x0
def f15 (L N : Nat) (c0 : LI) (c1 : Int) (x0 : Graph) : Option (LI × LI × Int) := f15.b L N (fun a0 a1 a2 => some (a0, a1, a2)) c0 c1 x0
def f15.ent (L N : Nat) (args : List AV) (vw : View) (site : Nat) : Ans := match boxD [(.sl (.int .u8)), i64] [(.st 2)] vw args with
  | some (o, d0, d, u) => ⟨LI × LI × Int, f15 L N d0.1 d0.2.1 d.1, fun y => ((.tv (.sl i64) y.1), u ++ [(o, some (.box [(.tv (.sl (.int .u8)) y.2.1), (.tv i64 y.2.2)]))], [])⟩
  | none => Ans.no
noncomputable def E15 (L N : Nat) : Env := { P := Tryz.prog, ty := tyOf, Φ := (Φ14 L N), inl := inlT, live := lives, liveX := livesX, L := L, dp := none, prom := promT, heal := healT, ren := renT }
noncomputable def f15.c0 : Code := loopAt 0 (codeOf Tryz.f15)
def f15.X0_e0 {R : Type} (κ : KX R) := fun z7 z8 z9 => κ (.exit 0) (f15.T0_e0 z7 z8 z9) (f15.H0_e0 z7 z8 z9)
def f15.R0 {R : Type} (rec : KT R) := fun s1 s2 s3 s4 s5 s6 => rec (f15.T0 s1 s2 s3 s4 s5 s6) (f15.H0 s1 s2 s3 s4 s5 s6)
theorem f15.s0_eq {R : Type} (L N : Nat) (κ : KX R) (rec : KT R) (s1 : Int) (s2 : Int) (s3 : LI) (s4 : Int) (s5 : LLM) (s6 : LI) :
    evRd (E15 L N) (evCallI (E15 L N) 0 1000) 1000 15 70 0 f15.c0 κ rec (f15.T0 s1 s2 s3 s4 s5 s6) (f15.H0 s1 s2 s3 s4 s5 s6)
    = f15.s0 L N (f15.X0_e0 κ) (f15.R0 rec) s1 s2 s3 s4 s5 s6 := by kernel_rfl
theorem f15.l0_eq {R : Type} (L N : Nat) (κ : KX R) : ∀ (n : Nat) (s1 : Int) (s2 : Int) (s3 : LI) (s4 : Int) (s5 : LLM) (s6 : LI),
    evLp (E15 L N) (evCallI (E15 L N) 0 1000) 1000 15 70 0 f15.c0 κ n (f15.T0 s1 s2 s3 s4 s5 s6) (f15.H0 s1 s2 s3 s4 s5 s6)
    = f15.l0 L N (f15.X0_e0 κ) n s1 s2 s3 s4 s5 s6 := by
  intro n
  induction n with
  | zero => intros; rfl
  | succ n ih =>
    intro s1 s2 s3 s4 s5 s6
    rw [evLp_succ, f15.s0_eq]
    delta f15.R0
    simp only [ih]
    rfl
theorem f15.p0_e0_eq {R : Type} (L N : Nat) (κ : AV → Dens [(.sl (.int .u8)), i64] → Option R) (z7 : LI) (z8 : Int) (z9 : LI) :
    (contAt (E15 L N) (evCallI (E15 L N) 0 1000) 1000 15 70 0 (codeOf Tryz.f15) (finK (E15 L N) 1000 Tryz.f15 (finM (.one (.sl i64)) [(.sl (.int .u8)), i64] κ))) (.exit 0) (f15.T0_e0 z7 z8 z9) (f15.H0_e0 z7 z8 z9)
    = f15.p0_e0 L N (fun a0 a1 a2 => κ (.tv (.sl i64) a0) (a1, a2, ())) z7 z8 z9 := by kernel_rfl
theorem f15.b_eq {R : Type} (L N : Nat) (κ : AV → Dens [(.sl (.int .u8)), i64] → Option R) (c0 : LI) (c1 : Int) (x0 : Graph) :
    evBody (E15 L N) (evCallI (E15 L N) 0 1000) 1000 15 Tryz.f15 [(.ptr 0 0), (.tv (.st 2) x0)] [.ptr 0 0] [(0, (.box [(.tv (.sl (.int .u8)) c0), (.tv i64 c1)]))] (finM (.one (.sl i64)) [(.sl (.int .u8)), i64] κ)
    = f15.b L N (fun a0 a1 a2 => κ (.tv (.sl i64) a0) (a1, a2, ())) c0 c1 x0 := by
  refine Eq.trans (b := f15.b' L N (fun a0 a1 a2 => κ (.tv (.sl i64) a0) (a1, a2, ())) (fun s1 s2 s3 s4 s5 s6 => evLp (E15 L N) (evCallI (E15 L N) 0 1000) 1000 15 70 0 f15.c0 (contAt (E15 L N) (evCallI (E15 L N) 0 1000) 1000 15 70 0 (codeOf Tryz.f15) (finK (E15 L N) 1000 Tryz.f15 (finM (.one (.sl i64)) [(.sl (.int .u8)), i64] κ))) L (f15.T0 s1 s2 s3 s4 s5 s6) (f15.H0 s1 s2 s3 s4 s5 s6)) c0 c1 x0) (by kernel_rfl) ?_
  unfold f15.b
  simp only [f15.l0_eq]
  delta f15.X0_e0
  simp only [f15.p0_e0_eq]
theorem f15.ok (L N : Nat) (hΦ : TellsOk Tryz.prog ((Φ14 L N))) : EntOk Tryz.prog 15 (f15.ent L N) := by
  intro args vw site h
  unfold f15.ent
  split
  · rename_i o d0 d u ha
    intro y hy hs
    obtain ⟨rest, cs, rfl, ho, hd0, hr, hu⟩ := boxD_some ha
    refine call_box (y := y) (dep := 1000) (v' := (.tv (.sl i64) y.1)) (d1 := (y.2.1, y.2.2, ())) (E := (E15 L N)) (ts := [(.sl (.int .u8)), i64]) (tr := [(.st 2)]) (rs := (.one (.sl i64))) (κ := (fun v d => (unR (.one (.sl i64)) v).bind fun x => some (x, d.1, d.2.1))) (sound_of hΦ) okP (callI_sound (sound_of hΦ) okP 0 1000) (f := Tryz.f15) rfl hs ho hd0 hr hu ?_ (fun _ _ h => by obtain ⟨x, h1, h2⟩ := unR_bind h; obtain rfl := Option.some.inj h2; exact ⟨h1, rfl⟩) site
    exact (f15.b_eq L N (fun v d => (unR (.one (.sl i64)) v).bind fun x => some (x, d.1, d.2.1)) d0.1 d0.2.1 d.1).trans (Eq.trans (b := f15.b L N (fun a0 a1 a2 => some (a0, a1, a2)) d0.1 d0.2.1 d.1) (by kernel_rfl) hy)
  · intro y hy
    cases hy
def Φ15 (L N : Nat) : Tells := (addT (Φ14 L N) 15 (f15.ent L N))
theorem Φ15_ok (L N : Nat) : TellsOk Tryz.prog (Φ15 L N) := addT_ok (Φ14_ok L N) (f15.ok L N (Φ14_ok L N))
def f26.s0' {R : Type} (L N : Nat) (k0_e0 : Int → LI → Int → LB → Option R) (rec0 : Int → Int → LI → Int → LB → Option R) (s0 : Int) (s1 : Int) (s2 : LI) (s3 : Int) (s4 : LB) : Option R :=
  bif (decide (s1 < s0)) then
    (f35 L N s2 s3 (3 : Int)).bind fun y9 =>
    bif (decide (s4.length + ([(y9.1 == (0 : Int))] : LB).length ≤ lim)) then
      rec0 s0 (wi (s1 + (1 : Int))) y9.2.1 y9.2.2 (s4 ++ ([(y9.1 == (0 : Int))] : LB))
    else none
  else k0_e0 s0 s2 s3 s4
def f26.s0 {R : Type} (L N : Nat) (k0_e0 : Int → LI → Int → LB → Option R) (rec0 : Int → Int → LI → Int → LB → Option R) (s0 : Int) (s1 : Int) (s2 : LI) (s3 : Int) (s4 : LB) : Option R :=
  f26.s0' L N k0_e0 rec0 s0 s1 s2 s3 s4
def f26.l0 {R : Type} (L N : Nat) (k0_e0 : Int → LI → Int → LB → Option R) : Nat → Int → Int → LI → Int → LB → Option R
  | 0, _, _, _, _, _ => none
  | n + 1, s0, s1, s2, s3, s4 => f26.s0 L N k0_e0 (f26.l0 L N k0_e0 n) s0 s1 s2 s3 s4
def f26.T0 (s0 : Int) (s1 : Int) (s2 : LI) (s3 : Int) (s4 : LB) : T := mkT 29 [(0, (.ptr 0 0)), (1, (.tv i64 s0)), (5, (.row 1007)), (6, (.tv i64 s1))] ++ [.ptr 0 0]
def f26.H0 (s0 : Int) (s1 : Int) (s2 : LI) (s3 : Int) (s4 : LB) : H := [(0, (.box [(.tv (.sl (.int .u8)) s2), (.tv i64 s3)])), (1007, (.row 4 .bool s4))]
def f26.T0_e0 (z5 : Int) (z6 : LI) (z7 : Int) (z8 : LB) : T := mkT 29 [(0, (.ptr 0 0)), (1, (.tv i64 z5)), (5, (.row 1007))] ++ [.ptr 0 0]
def f26.H0_e0 (z5 : Int) (z6 : LI) (z7 : Int) (z8 : LB) : H := [(0, (.box [(.tv (.sl (.int .u8)) z6), (.tv i64 z7)])), (1007, (.row 4 .bool z8))]
def f26.j0' {R : Type} (L N : Nat) (k : LB → LI → Int → Option R) (v11 : Bool) (v12 : LI) (v13 : Int) (v14 : LB) : Option R :=
  bif v11 then
    bif (slB (1 : Int) (v14.length : Int) v14.length) then
      k (slX v14 (1 : Int) (v14.length : Int)) v12 v13
    else none
  else k v14 v12 v13
def f26.p0_e0' {R : Type} (L N : Nat) (k : LB → LI → Int → Option R) (z5 : Int) (z6 : LI) (z7 : Int) (z8 : LB) : Option R :=
  (f35 L N z6 z7 (20 : Int)).bind fun y10 =>
  bif (y10.1 == (0 : Int)) then
    f26.j0' L N k (decide (z5 > (0 : Int))) y10.2.1 y10.2.2 z8
  else f26.j0' L N k false y10.2.1 y10.2.2 z8
def f26.p0_e0 {R : Type} (L N : Nat) (k : LB → LI → Int → Option R) (z5 : Int) (z6 : LI) (z7 : Int) (z8 : LB) : Option R :=
  f26.p0_e0' L N k z5 z6 z7 z8
def f26.b' {R : Type} (L N : Nat) (k : LB → LI → Int → Option R) (w0 : Int → Int → LI → Int → LB → Option R) (c0 : LI) (c1 : Int) (x0 : Int) : Option R :=
  w0 x0 (0 : Int) c0 c1 ([] : LB)
def f26.b {R : Type} (L N : Nat) (k : LB → LI → Int → Option R) (c0 : LI) (c1 : Int) (x0 : Int) : Option R :=
  f26.b' L N k (fun s0 s1 s2 s3 s4 => f26.l0 L N (fun z5 z6 z7 z8 => f26.p0_e0 L N k z5 z6 z7 z8) L s0 s1 s2 s3 s4) c0 c1 x0
def f26 (L N : Nat) (c0 : LI) (c1 : Int) (x0 : Int) : Option (LB × LI × Int) := f26.b L N (fun a0 a1 a2 => some (a0, a1, a2)) c0 c1 x0
def f26.ent (L N : Nat) (args : List AV) (vw : View) (site : Nat) : Ans := match boxD [(.sl (.int .u8)), i64] [i64] vw args with
  | some (o, d0, d, u) => ⟨LB × LI × Int, f26 L N d0.1 d0.2.1 d.1, fun y => ((.tv (.sl .bool) y.1), u ++ [(o, some (.box [(.tv (.sl (.int .u8)) y.2.1), (.tv i64 y.2.2)]))], [])⟩
  | none => Ans.no
noncomputable def E26 (L N : Nat) : Env := { P := Tryz.prog, ty := tyOf, Φ := (Φ15 L N), inl := inlT, live := lives, liveX := livesX, L := L, dp := none, prom := promT, heal := healT, ren := renT }
noncomputable def f26.c0 : Code := loopAt 0 (codeOf Tryz.f26)
def f26.X0_e0 {R : Type} (κ : KX R) := fun z5 z6 z7 z8 => κ (.exit 0) (f26.T0_e0 z5 z6 z7 z8) (f26.H0_e0 z5 z6 z7 z8)
def f26.R0 {R : Type} (rec : KT R) := fun s0 s1 s2 s3 s4 => rec (f26.T0 s0 s1 s2 s3 s4) (f26.H0 s0 s1 s2 s3 s4)
theorem f26.s0_eq {R : Type} (L N : Nat) (κ : KX R) (rec : KT R) (s0 : Int) (s1 : Int) (s2 : LI) (s3 : Int) (s4 : LB) :
    evRd (E26 L N) (evCallI (E26 L N) 0 1000) 1000 26 29 0 f26.c0 κ rec (f26.T0 s0 s1 s2 s3 s4) (f26.H0 s0 s1 s2 s3 s4)
    = f26.s0 L N (f26.X0_e0 κ) (f26.R0 rec) s0 s1 s2 s3 s4 := by kernel_rfl
theorem f26.l0_eq {R : Type} (L N : Nat) (κ : KX R) : ∀ (n : Nat) (s0 : Int) (s1 : Int) (s2 : LI) (s3 : Int) (s4 : LB),
    evLp (E26 L N) (evCallI (E26 L N) 0 1000) 1000 26 29 0 f26.c0 κ n (f26.T0 s0 s1 s2 s3 s4) (f26.H0 s0 s1 s2 s3 s4)
    = f26.l0 L N (f26.X0_e0 κ) n s0 s1 s2 s3 s4 := by
  intro n
  induction n with
  | zero => intros; rfl
  | succ n ih =>
    intro s0 s1 s2 s3 s4
    rw [evLp_succ, f26.s0_eq]
    delta f26.R0
    simp only [ih]
    rfl
theorem f26.p0_e0_eq {R : Type} (L N : Nat) (κ : AV → Dens [(.sl (.int .u8)), i64] → Option R) (z5 : Int) (z6 : LI) (z7 : Int) (z8 : LB) :
    (contAt (E26 L N) (evCallI (E26 L N) 0 1000) 1000 26 29 0 (codeOf Tryz.f26) (finK (E26 L N) 1000 Tryz.f26 (finM (.one (.sl .bool)) [(.sl (.int .u8)), i64] κ))) (.exit 0) (f26.T0_e0 z5 z6 z7 z8) (f26.H0_e0 z5 z6 z7 z8)
    = f26.p0_e0 L N (fun a0 a1 a2 => κ (.tv (.sl .bool) a0) (a1, a2, ())) z5 z6 z7 z8 := by kernel_rfl
theorem f26.b_eq {R : Type} (L N : Nat) (κ : AV → Dens [(.sl (.int .u8)), i64] → Option R) (c0 : LI) (c1 : Int) (x0 : Int) :
    evBody (E26 L N) (evCallI (E26 L N) 0 1000) 1000 26 Tryz.f26 [(.ptr 0 0), (.tv i64 x0)] [.ptr 0 0] [(0, (.box [(.tv (.sl (.int .u8)) c0), (.tv i64 c1)]))] (finM (.one (.sl .bool)) [(.sl (.int .u8)), i64] κ)
    = f26.b L N (fun a0 a1 a2 => κ (.tv (.sl .bool) a0) (a1, a2, ())) c0 c1 x0 := by
  refine Eq.trans (b := f26.b' L N (fun a0 a1 a2 => κ (.tv (.sl .bool) a0) (a1, a2, ())) (fun s0 s1 s2 s3 s4 => evLp (E26 L N) (evCallI (E26 L N) 0 1000) 1000 26 29 0 f26.c0 (contAt (E26 L N) (evCallI (E26 L N) 0 1000) 1000 26 29 0 (codeOf Tryz.f26) (finK (E26 L N) 1000 Tryz.f26 (finM (.one (.sl .bool)) [(.sl (.int .u8)), i64] κ))) L (f26.T0 s0 s1 s2 s3 s4) (f26.H0 s0 s1 s2 s3 s4)) c0 c1 x0) (by kernel_rfl) ?_
  unfold f26.b
  simp only [f26.l0_eq]
  delta f26.X0_e0
  simp only [f26.p0_e0_eq]
theorem f26.ok (L N : Nat) (hΦ : TellsOk Tryz.prog ((Φ15 L N))) : EntOk Tryz.prog 26 (f26.ent L N) := by
  intro args vw site h
  unfold f26.ent
  split
  · rename_i o d0 d u ha
    intro y hy hs
    obtain ⟨rest, cs, rfl, ho, hd0, hr, hu⟩ := boxD_some ha
    refine call_box (y := y) (dep := 1000) (v' := (.tv (.sl .bool) y.1)) (d1 := (y.2.1, y.2.2, ())) (E := (E26 L N)) (ts := [(.sl (.int .u8)), i64]) (tr := [i64]) (rs := (.one (.sl .bool))) (κ := (fun v d => (unR (.one (.sl .bool)) v).bind fun x => some (x, d.1, d.2.1))) (sound_of hΦ) okP (callI_sound (sound_of hΦ) okP 0 1000) (f := Tryz.f26) rfl hs ho hd0 hr hu ?_ (fun _ _ h => by obtain ⟨x, h1, h2⟩ := unR_bind h; obtain rfl := Option.some.inj h2; exact ⟨h1, rfl⟩) site
    exact (f26.b_eq L N (fun v d => (unR (.one (.sl .bool)) v).bind fun x => some (x, d.1, d.2.1)) d0.1 d0.2.1 d.1).trans (Eq.trans (b := f26.b L N (fun a0 a1 a2 => some (a0, a1, a2)) d0.1 d0.2.1 d.1) (by kernel_rfl) hy)
  · intro y hy
    cases hy
def Φ26 (L N : Nat) : Tells := (addT (Φ15 L N) 26 (f26.ent L N))
theorem Φ26_ok (L N : Nat) : TellsOk Tryz.prog (Φ26 L N) := addT_ok (Φ15_ok L N) (f26.ok L N (Φ15_ok L N))
def f10.b' {R : Type} (L N : Nat) (k : Graph → LI → LB → Option R) (x0 : LI) : Option R :=
  (f13 L N x0).bind fun y0 =>
  (f14 L N y0.1 y0.2).bind fun y1 =>
  (f15 L N y1.2.1 y1.2.2 (Graph.mk y1.1.moves)).bind fun y2 =>
  (f26 L N y2.2.1 y2.2.2 (8 : Int)).bind fun y3 =>
  k (Graph.mk ((Graph.mk y1.1.moves).moves)) y2.1 y3.1
def f10.b {R : Type} (L N : Nat) (k : Graph → LI → LB → Option R) (x0 : LI) : Option R :=
  f10.b' L N k x0
def f10 (L N : Nat) (x0 : LI) : Option (Graph × LI × LB) := f10.b L N (fun a0 a1 a2 => some (a0, a1, a2)) x0
def f10.ent (L N : Nat) := entDa [(.sl (.int .u8))] (.many [(.st 2), (.sl i64), (.sl .bool)]) fun d => f10 L N d.1
noncomputable def E10 (L N : Nat) : Env := { P := Tryz.prog, ty := tyOf, Φ := (Φ26 L N), inl := inlT, live := lives, liveX := livesX, L := L, dp := none, prom := promT, heal := healT, ren := renT }
theorem f10.b_eq {R : Type} (L N : Nat) (κ : AV → Option R) (x0 : LI) :
    evBody (E10 L N) (evCallI (E10 L N) 0 1000) 1000 10 Tryz.f10 [(.tv (.sl (.int .u8)) x0)] [] [] (finC (.many [(.st 2), (.sl i64), (.sl .bool)]) κ)
    = f10.b L N (fun a0 a1 a2 => κ (.tup [(.tv (.st 2) a0), (.tv (.sl i64) a1), (.tv (.sl .bool) a2)])) x0 := by kernel_rfl
theorem f10.ok (L N : Nat) (hΦ : TellsOk Tryz.prog ((Φ26 L N))) : EntOk Tryz.prog 10 (f10.ent L N) := entDa_ok (E := (E10 L N)) (dep := 1000) (f := Tryz.f10) (sound_of hΦ) okP (callI_sound (sound_of hΦ) okP 0 1000) rfl fun d _ hy => (f10.b_eq L N (unR (.many [(.st 2), (.sl i64), (.sl .bool)])) d.1).trans (Eq.trans (b := f10.b L N (fun a0 a1 a2 => some (a0, a1, a2)) d.1) (by kernel_rfl) hy)
def Φ10 (L N : Nat) : Tells := (addT (Φ26 L N) 10 (f10.ent L N))
theorem Φ10_ok (L N : Nat) : TellsOk Tryz.prog (Φ10 L N) := addT_ok (Φ26_ok L N) (f10.ok L N (Φ26_ok L N))
def f28.b' {R : Type} (L N : Nat) (k : Bool → Option R) (x0 : LB) : Option R :=
  k ((x0.length : Int) == (8 : Int))
def f28.b {R : Type} (L N : Nat) (k : Bool → Option R) (x0 : LB) : Option R :=
  f28.b' L N k x0
def f28 (L N : Nat) (x0 : LB) : Option (Bool) := f28.b L N some x0
def f28.ent (L N : Nat) := entRo [(.sl .bool)] (.one .bool) fun d => f28 L N d.1
noncomputable def E28 (L N : Nat) : Env := { P := Tryz.prog, ty := tyOf, Φ := (Φ10 L N), inl := inlT, live := lives, liveX := livesX, L := L, dp := none, prom := promT, heal := healT, ren := renT }
theorem f28.b_eq {R : Type} (L N : Nat) (κ : AV → Option R) (x0 : LB) :
    evBody (E28 L N) (evCallI (E28 L N) 0 1000) 1000 28 Tryz.f28 [(.tv (.sl .bool) x0)] [] [] (finC (.one .bool) κ)
    = f28.b L N (fun a0 => κ (.tv .bool a0)) x0 := by kernel_rfl
theorem f28.ok (L N : Nat) (hΦ : TellsOk Tryz.prog ((Φ10 L N))) : EntOk Tryz.prog 28 (f28.ent L N) := entRo_ok (E := (E28 L N)) (dep := 1000) (f := Tryz.f28) (sound_of hΦ) okP (callI_sound (sound_of hΦ) okP 0 1000) rfl rfl fun d _ hy => (f28.b_eq L N (unR (.one .bool)) d.1).trans (Eq.trans (b := f28.b L N some d.1) (by kernel_rfl) hy)
def Φ28 (L N : Nat) : Tells := (addT (Φ10 L N) 28 (f28.ent L N))
theorem Φ28_ok (L N : Nat) : TellsOk Tryz.prog (Φ28 L N) := addT_ok (Φ10_ok L N) (f28.ok L N (Φ10_ok L N))
def f75.b' {R : Type} (L N : Nat) (k : Bool → Option R) (x0 : Move) : Option R :=
  k (x0.act == (0 : Int))
def f75.b {R : Type} (L N : Nat) (k : Bool → Option R) (x0 : Move) : Option R :=
  f75.b' L N k x0
def f75 (L N : Nat) (x0 : Move) : Option (Bool) := f75.b L N some x0
def f75.ent (L N : Nat) := entRo [(.st 0)] (.one .bool) fun d => f75 L N d.1
noncomputable def E75 (L N : Nat) : Env := { P := Tryz.prog, ty := tyOf, Φ := (Φ28 L N), inl := inlT, live := lives, liveX := livesX, L := L, dp := none, prom := promT, heal := healT, ren := renT }
theorem f75.b_eq {R : Type} (L N : Nat) (κ : AV → Option R) (x0 : Move) :
    evBody (E75 L N) (evCallI (E75 L N) 0 1000) 1000 75 Tryz.f75 [(.tv (.st 0) x0)] [] [] (finC (.one .bool) κ)
    = f75.b L N (fun a0 => κ (.tv .bool a0)) x0 := by kernel_rfl
theorem f75.ok (L N : Nat) (hΦ : TellsOk Tryz.prog ((Φ28 L N))) : EntOk Tryz.prog 75 (f75.ent L N) := entRo_ok (E := (E75 L N)) (dep := 1000) (f := Tryz.f75) (sound_of hΦ) okP (callI_sound (sound_of hΦ) okP 0 1000) rfl rfl fun d _ hy => (f75.b_eq L N (unR (.one .bool)) d.1).trans (Eq.trans (b := f75.b L N some d.1) (by kernel_rfl) hy)
def Φ75 (L N : Nat) : Tells := (addT (Φ28 L N) 75 (f75.ent L N))
theorem Φ75_ok (L N : Nat) : TellsOk Tryz.prog (Φ75 L N) := addT_ok (Φ28_ok L N) (f75.ok L N (Φ28_ok L N))
def f76_1.s0' {R : Type} (L N : Nat) (k0_e0 : Option R) (k0_r : Int → Option R) (rec0 : LM → Int → Int → Option R) (s0 : LM) (s1 : Int) (s2 : Int) : Option R :=
  bif (decide (s2 < s1)) then
    bif (decide (0 ≤ s2) && decide (s2 < (s0.length : Int))) then
      (f75 L N (listAt s0 (Ty.dflt (.st 0)) s2.toNat)).bind fun y3 =>
      bif y3 then
        k0_r s2
      else rec0 s0 s1 (wi (s2 + (1 : Int)))
    else none
  else k0_e0
def f76_1.s0 {R : Type} (L N : Nat) (k0_e0 : Option R) (k0_r : Int → Option R) (rec0 : LM → Int → Int → Option R) (s0 : LM) (s1 : Int) (s2 : Int) : Option R :=
  f76_1.s0' L N k0_e0 k0_r rec0 s0 s1 s2
def f76_1.l0 {R : Type} (L N : Nat) (k0_e0 : Option R) (k0_r : Int → Option R) : Nat → LM → Int → Int → Option R
  | 0, _, _, _ => none
  | n + 1, s0, s1, s2 => f76_1.s0 L N k0_e0 k0_r (f76_1.l0 L N k0_e0 k0_r n) s0 s1 s2
def f76_1.T0 (s0 : LM) (s1 : Int) (s2 : Int) : T := mkT 19 [(0, (.tv (.sl (.st 0)) s0)), (1, (.fn 75 [])), (7, (.tv i64 s1)), (8, (.tv i64 s2))]
def f76_1.H0 (s0 : LM) (s1 : Int) (s2 : Int) : H := []
def f76_1.T0_e0 : T := mkT 19 []
def f76_1.H0_e0 : H := []
def f76_1.T0_r (z4 : Int) : T := mkT 19 [(4, (.tv i64 z4))]
def f76_1.H0_r (z4 : Int) : H := []
def f76_1.p0_e0' {R : Type} (L N : Nat) (k : Int → Option R) : Option R :=
  k (-1 : Int)
def f76_1.p0_e0 {R : Type} (L N : Nat) (k : Int → Option R) : Option R :=
  f76_1.p0_e0' L N k
def f76_1.p0_r' {R : Type} (L N : Nat) (k : Int → Option R) (z4 : Int) : Option R :=
  k z4
def f76_1.p0_r {R : Type} (L N : Nat) (k : Int → Option R) (z4 : Int) : Option R :=
  f76_1.p0_r' L N k z4
def f76_1.b' {R : Type} (L N : Nat) (k : Int → Option R) (w0 : LM → Int → Int → Option R) (x0 : LM) : Option R :=
  w0 x0 (x0.length : Int) (0 : Int)
def f76_1.b {R : Type} (L N : Nat) (k : Int → Option R) (x0 : LM) : Option R :=
  f76_1.b' L N k (fun s0 s1 s2 => f76_1.l0 L N (f76_1.p0_e0 L N k) (fun z4 => f76_1.p0_r L N k z4) L s0 s1 s2) x0
def f76_1 (L N : Nat) (x0 : LM) : Option (Int) := f76_1.b L N some x0
def f76_1.ent (L N : Nat) := entRf [(.dat (.sl (.st 0))), (.fn 75 [])] (.one i64) fun d => f76_1 L N d.1
noncomputable def E76_1 (L N : Nat) : Env := { P := Tryz.prog, ty := tyOf, Φ := (Φ75 L N), inl := inlT, live := lives, liveX := livesX, L := L, dp := none, prom := promT, heal := healT, ren := renT }
noncomputable def f76_1.c0 : Code := loopAt 0 (codeOf Tryz.f76)
def f76_1.X0_e0 {R : Type} (κ : KX R) := κ (.exit 0) f76_1.T0_e0 f76_1.H0_e0
def f76_1.X0_r {R : Type} (κ : KX R) := fun z4 => κ .ret (f76_1.T0_r z4) (f76_1.H0_r z4)
def f76_1.R0 {R : Type} (rec : KT R) := fun s0 s1 s2 => rec (f76_1.T0 s0 s1 s2) (f76_1.H0 s0 s1 s2)
theorem f76_1.s0_eq {R : Type} (L N : Nat) (κ : KX R) (rec : KT R) (s0 : LM) (s1 : Int) (s2 : Int) :
    evRd (E76_1 L N) (evCallI (E76_1 L N) 0 1000) 1000 76 19 0 f76_1.c0 κ rec (f76_1.T0 s0 s1 s2) (f76_1.H0 s0 s1 s2)
    = f76_1.s0 L N (f76_1.X0_e0 κ) (f76_1.X0_r κ) (f76_1.R0 rec) s0 s1 s2 := by kernel_rfl
theorem f76_1.l0_eq {R : Type} (L N : Nat) (κ : KX R) : ∀ (n : Nat) (s0 : LM) (s1 : Int) (s2 : Int),
    evLp (E76_1 L N) (evCallI (E76_1 L N) 0 1000) 1000 76 19 0 f76_1.c0 κ n (f76_1.T0 s0 s1 s2) (f76_1.H0 s0 s1 s2)
    = f76_1.l0 L N (f76_1.X0_e0 κ) (f76_1.X0_r κ) n s0 s1 s2 := by
  intro n
  induction n with
  | zero => intros; rfl
  | succ n ih =>
    intro s0 s1 s2
    rw [evLp_succ, f76_1.s0_eq]
    delta f76_1.R0
    simp only [ih]
    rfl
theorem f76_1.p0_e0_eq {R : Type} (L N : Nat) (κ : AV → Option R) :
    (contAt (E76_1 L N) (evCallI (E76_1 L N) 0 1000) 1000 76 19 0 (codeOf Tryz.f76) (finK (E76_1 L N) 1000 Tryz.f76 (finC (.one i64) κ))) (.exit 0) f76_1.T0_e0 f76_1.H0_e0
    = f76_1.p0_e0 L N (fun a0 => κ (.tv i64 a0)) := by kernel_rfl
theorem f76_1.p0_r_eq {R : Type} (L N : Nat) (κ : AV → Option R) (z4 : Int) :
    (contAt (E76_1 L N) (evCallI (E76_1 L N) 0 1000) 1000 76 19 0 (codeOf Tryz.f76) (finK (E76_1 L N) 1000 Tryz.f76 (finC (.one i64) κ))) .ret (f76_1.T0_r z4) (f76_1.H0_r z4)
    = f76_1.p0_r L N (fun a0 => κ (.tv i64 a0)) z4 := by kernel_rfl
theorem f76_1.b_eq {R : Type} (L N : Nat) (κ : AV → Option R) (x0 : LM) :
    evBody (E76_1 L N) (evCallI (E76_1 L N) 0 1000) 1000 76 Tryz.f76 [(.tv (.sl (.st 0)) x0), (.fn 75 [])] [] [] (finC (.one i64) κ)
    = f76_1.b L N (fun a0 => κ (.tv i64 a0)) x0 := by
  refine Eq.trans (b := f76_1.b' L N (fun a0 => κ (.tv i64 a0)) (fun s0 s1 s2 => evLp (E76_1 L N) (evCallI (E76_1 L N) 0 1000) 1000 76 19 0 f76_1.c0 (contAt (E76_1 L N) (evCallI (E76_1 L N) 0 1000) 1000 76 19 0 (codeOf Tryz.f76) (finK (E76_1 L N) 1000 Tryz.f76 (finC (.one i64) κ))) L (f76_1.T0 s0 s1 s2) (f76_1.H0 s0 s1 s2)) x0) (by kernel_rfl) ?_
  unfold f76_1.b
  simp only [f76_1.l0_eq]
  delta f76_1.X0_e0 f76_1.X0_r
  simp only [f76_1.p0_e0_eq, f76_1.p0_r_eq]
theorem f76_1.ok (L N : Nat) (hΦ : TellsOk Tryz.prog ((Φ75 L N))) : EntOkO Tryz.prog 76 (f76_1.ent L N) := entRf_ok (E := (E76_1 L N)) (dep := 1000) (f := Tryz.f76) (sound_of hΦ) okP (callI_sound (sound_of hΦ) okP 0 1000) rfl rfl fun d _ hy => (f76_1.b_eq L N (unR (.one i64)) d.1).trans (Eq.trans (b := f76_1.b L N some d.1) (by kernel_rfl) hy)
def Φ76_1 (L N : Nat) : Tells := (addO (Φ75 L N) 76 (f76_1.ent L N))
theorem Φ76_1_ok (L N : Nat) : TellsOk Tryz.prog (Φ76_1 L N) := addO_ok (Φ75_ok L N) (f76_1.ok L N (Φ75_ok L N))
def f58_2.b' {R : Type} (L N : Nat) (k : Bool → Option R) (x0 : LM) : Option R :=
  (f76_1 L N x0).bind fun y0 =>
  k (decide (y0 ≥ (0 : Int)))
def f58_2.b {R : Type} (L N : Nat) (k : Bool → Option R) (x0 : LM) : Option R :=
  f58_2.b' L N k x0
def f58_2 (L N : Nat) (x0 : LM) : Option (Bool) := f58_2.b L N some x0
def f58_2.ent (L N : Nat) := entRf [(.dat (.sl (.st 0))), (.fn 75 [])] (.one .bool) fun d => f58_2 L N d.1
noncomputable def E58_2 (L N : Nat) : Env := { P := Tryz.prog, ty := tyOf, Φ := (Φ76_1 L N), inl := inlT, live := lives, liveX := livesX, L := L, dp := none, prom := promT, heal := healT, ren := renT }
theorem f58_2.b_eq {R : Type} (L N : Nat) (κ : AV → Option R) (x0 : LM) :
    evBody (E58_2 L N) (evCallI (E58_2 L N) 0 1000) 1000 58 Tryz.f58 [(.tv (.sl (.st 0)) x0), (.fn 75 [])] [] [] (finC (.one .bool) κ)
    = f58_2.b L N (fun a0 => κ (.tv .bool a0)) x0 := by kernel_rfl
theorem f58_2.ok (L N : Nat) (hΦ : TellsOk Tryz.prog ((Φ76_1 L N))) : EntOkO Tryz.prog 58 (f58_2.ent L N) := entRf_ok (E := (E58_2 L N)) (dep := 1000) (f := Tryz.f58) (sound_of hΦ) okP (callI_sound (sound_of hΦ) okP 0 1000) rfl rfl fun d _ hy => (f58_2.b_eq L N (unR (.one .bool)) d.1).trans (Eq.trans (b := f58_2.b L N some d.1) (by kernel_rfl) hy)
def Φ58_2 (L N : Nat) : Tells := (addO (Φ76_1 L N) 58 (f58_2.ent L N))
theorem Φ58_2_ok (L N : Nat) : TellsOk Tryz.prog (Φ58_2 L N) := addO_ok (Φ76_1_ok L N) (f58_2.ok L N (Φ76_1_ok L N))
def f57.b' {R : Type} (L N : Nat) (k : Bool → Option R) (x0 : Graph) (x1 : Int) : Option R :=
  bif (decide (0 ≤ x1) && decide (x1 < (x0.moves.length : Int))) then
    (f58_2 L N (listAt x0.moves [] x1.toNat)).bind fun y0 =>
    k (!y0)
  else none
def f57.b {R : Type} (L N : Nat) (k : Bool → Option R) (x0 : Graph) (x1 : Int) : Option R :=
  f57.b' L N k x0 x1
def f57 (L N : Nat) (x0 : Graph) (x1 : Int) : Option (Bool) := f57.b L N some x0 x1
def f57.ent (L N : Nat) := entRo [(.st 2), i64] (.one .bool) fun d => f57 L N d.1 d.2.1
noncomputable def E57 (L N : Nat) : Env := { P := Tryz.prog, ty := tyOf, Φ := (Φ58_2 L N), inl := inlT, live := lives, liveX := livesX, L := L, dp := none, prom := promT, heal := healT, ren := renT }
theorem f57.b_eq {R : Type} (L N : Nat) (κ : AV → Option R) (x0 : Graph) (x1 : Int) :
    evBody (E57 L N) (evCallI (E57 L N) 0 1000) 1000 57 Tryz.f57 [(.tv (.st 2) x0), (.tv i64 x1)] [] [] (finC (.one .bool) κ)
    = f57.b L N (fun a0 => κ (.tv .bool a0)) x0 x1 := by kernel_rfl
theorem f57.ok (L N : Nat) (hΦ : TellsOk Tryz.prog ((Φ58_2 L N))) : EntOk Tryz.prog 57 (f57.ent L N) := entRo_ok (E := (E57 L N)) (dep := 1000) (f := Tryz.f57) (sound_of hΦ) okP (callI_sound (sound_of hΦ) okP 0 1000) rfl rfl fun d _ hy => (f57.b_eq L N (unR (.one .bool)) d.1 d.2.1).trans (Eq.trans (b := f57.b L N some d.1 d.2.1) (by kernel_rfl) hy)
def Φ57 (L N : Nat) : Tells := (addT (Φ58_2 L N) 57 (f57.ent L N))
theorem Φ57_ok (L N : Nat) : TellsOk Tryz.prog (Φ57 L N) := addT_ok (Φ58_2_ok L N) (f57.ok L N (Φ58_2_ok L N))
def f77.b' {R : Type} (L N : Nat) (k : Int → Option R) (x0 : Int) : Option R :=
  k (wi ((bif decide ((wi (0 - x0)) > x0) then (wi (0 - x0)) else x0) - (1 : Int)))
def f77.b {R : Type} (L N : Nat) (k : Int → Option R) (x0 : Int) : Option R :=
  f77.b' L N k x0
def f77 (L N : Nat) (x0 : Int) : Option (Int) := f77.b L N some x0
def f77.ent (L N : Nat) := entRo [i64] (.one i64) fun d => f77 L N d.1
noncomputable def E77 (L N : Nat) : Env := { P := Tryz.prog, ty := tyOf, Φ := (Φ57 L N), inl := inlT, live := lives, liveX := livesX, L := L, dp := none, prom := promT, heal := healT, ren := renT }
theorem f77.b_eq {R : Type} (L N : Nat) (κ : AV → Option R) (x0 : Int) :
    evBody (E77 L N) (evCallI (E77 L N) 0 1000) 1000 77 Tryz.f77 [(.tv i64 x0)] [] [] (finC (.one i64) κ)
    = f77.b L N (fun a0 => κ (.tv i64 a0)) x0 := by kernel_rfl
theorem f77.ok (L N : Nat) (hΦ : TellsOk Tryz.prog ((Φ57 L N))) : EntOk Tryz.prog 77 (f77.ent L N) := entRo_ok (E := (E77 L N)) (dep := 1000) (f := Tryz.f77) (sound_of hΦ) okP (callI_sound (sound_of hΦ) okP 0 1000) rfl rfl fun d _ hy => (f77.b_eq L N (unR (.one i64)) d.1).trans (Eq.trans (b := f77.b L N some d.1) (by kernel_rfl) hy)
def Φ77 (L N : Nat) : Tells := (addT (Φ57 L N) 77 (f77.ent L N))
theorem Φ77_ok (L N : Nat) : TellsOk Tryz.prog (Φ77 L N) := addT_ok (Φ57_ok L N) (f77.ok L N (Φ57_ok L N))
def f60.b' {R : Type} (L N : Nat) (k : Bool → Option R) (x0 : LB) (x1 : Int) : Option R :=
  bif (decide (x1 < (0 : Int))) then
    (f77 L N x1).bind fun y0 =>
    bif (decide (0 ≤ y0) && decide (y0 < (x0.length : Int))) then
      k (listAt x0 false y0.toNat)
    else none
  else (f77 L N x1).bind fun y1 =>
  bif (decide (0 ≤ (wi ((4 : Int) + y1))) && decide ((wi ((4 : Int) + y1)) < (x0.length : Int))) then
    k (listAt x0 false (wi ((4 : Int) + y1)).toNat)
  else none
def f60.b {R : Type} (L N : Nat) (k : Bool → Option R) (x0 : LB) (x1 : Int) : Option R :=
  f60.b' L N k x0 x1
def f60 (L N : Nat) (x0 : LB) (x1 : Int) : Option (Bool) := f60.b L N some x0 x1
def f60.ent (L N : Nat) := entRo [(.sl .bool), i64] (.one .bool) fun d => f60 L N d.1 d.2.1
noncomputable def E60 (L N : Nat) : Env := { P := Tryz.prog, ty := tyOf, Φ := (Φ77 L N), inl := inlT, live := lives, liveX := livesX, L := L, dp := none, prom := promT, heal := healT, ren := renT }
theorem f60.b_eq {R : Type} (L N : Nat) (κ : AV → Option R) (x0 : LB) (x1 : Int) :
    evBody (E60 L N) (evCallI (E60 L N) 0 1000) 1000 60 Tryz.f60 [(.tv (.sl .bool) x0), (.tv i64 x1)] [] [] (finC (.one .bool) κ)
    = f60.b L N (fun a0 => κ (.tv .bool a0)) x0 x1 := by kernel_rfl
theorem f60.ok (L N : Nat) (hΦ : TellsOk Tryz.prog ((Φ77 L N))) : EntOk Tryz.prog 60 (f60.ent L N) := entRo_ok (E := (E60 L N)) (dep := 1000) (f := Tryz.f60) (sound_of hΦ) okP (callI_sound (sound_of hΦ) okP 0 1000) rfl rfl fun d _ hy => (f60.b_eq L N (unR (.one .bool)) d.1 d.2.1).trans (Eq.trans (b := f60.b L N some d.1 d.2.1) (by kernel_rfl) hy)
def Φ60 (L N : Nat) : Tells := (addT (Φ77 L N) 60 (f60.ent L N))
theorem Φ60_ok (L N : Nat) : TellsOk Tryz.prog (Φ60 L N) := addT_ok (Φ77_ok L N) (f60.ok L N (Φ77_ok L N))
def f59_1.b' {R : Type} (L N : Nat) (k : Bool → Option R) (x0 : Move) (x1 : LB) : Option R :=
  (f60 L N x1 x0.act).bind fun y0 =>
  k y0
def f59_1.b {R : Type} (L N : Nat) (k : Bool → Option R) (x0 : Move) (x1 : LB) : Option R :=
  f59_1.b' L N k x0 x1
def f59_1 (L N : Nat) (x0 : Move) (x1 : LB) : Option (Bool) := f59_1.b L N some x0 x1
def f59_1.ent (L N : Nat) := entRf [(.dat (.st 0)), (.imp (.sl .bool) 0)] (.one .bool) fun d => f59_1 L N d.1 d.2.1
noncomputable def E59_1 (L N : Nat) : Env := { P := Tryz.prog, ty := tyOf, Φ := (Φ60 L N), inl := inlT, live := lives, liveX := livesX, L := L, dp := none, prom := promT, heal := healT, ren := renT }
theorem f59_1.b_eq {R : Type} (L N : Nat) (κ : AV → Option R) (x0 : Move) (x1 : LB) :
    evBody (E59_1 L N) (evCallI (E59_1 L N) 0 1000) 1000 59 Tryz.f59 [(.tv (.st 0) x0), (.imp (.sl .bool) x1 0)] [] [] (finC (.one .bool) κ)
    = f59_1.b L N (fun a0 => κ (.tv .bool a0)) x0 x1 := by kernel_rfl
theorem f59_1.ok (L N : Nat) (hΦ : TellsOk Tryz.prog ((Φ60 L N))) : EntOkO Tryz.prog 59 (f59_1.ent L N) := entRf_ok (E := (E59_1 L N)) (dep := 1000) (f := Tryz.f59) (sound_of hΦ) okP (callI_sound (sound_of hΦ) okP 0 1000) rfl rfl fun d _ hy => (f59_1.b_eq L N (unR (.one .bool)) d.1 d.2.1).trans (Eq.trans (b := f59_1.b L N some d.1 d.2.1) (by kernel_rfl) hy)
def Φ59_1 (L N : Nat) : Tells := (addO (Φ60 L N) 59 (f59_1.ent L N))
theorem Φ59_1_ok (L N : Nat) : TellsOk Tryz.prog (Φ59_1 L N) := addO_ok (Φ60_ok L N) (f59_1.ok L N (Φ60_ok L N))
def f76_2.s0' {R : Type} (L N : Nat) (k0_e0 : Option R) (k0_r : Int → Option R) (rec0 : LM → LB → Int → Int → Option R) (s0 : LM) (s1 : LB) (s2 : Int) (s3 : Int) : Option R :=
  bif (decide (s3 < s2)) then
    bif (decide (0 ≤ s3) && decide (s3 < (s0.length : Int))) then
      (f59_1 L N (listAt s0 (Ty.dflt (.st 0)) s3.toNat) s1).bind fun y4 =>
      bif y4 then
        k0_r s3
      else rec0 s0 s1 s2 (wi (s3 + (1 : Int)))
    else none
  else k0_e0
def f76_2.s0 {R : Type} (L N : Nat) (k0_e0 : Option R) (k0_r : Int → Option R) (rec0 : LM → LB → Int → Int → Option R) (s0 : LM) (s1 : LB) (s2 : Int) (s3 : Int) : Option R :=
  f76_2.s0' L N k0_e0 k0_r rec0 s0 s1 s2 s3
def f76_2.l0 {R : Type} (L N : Nat) (k0_e0 : Option R) (k0_r : Int → Option R) : Nat → LM → LB → Int → Int → Option R
  | 0, _, _, _, _ => none
  | n + 1, s0, s1, s2, s3 => f76_2.s0 L N k0_e0 k0_r (f76_2.l0 L N k0_e0 k0_r n) s0 s1 s2 s3
def f76_2.T0 (s0 : LM) (s1 : LB) (s2 : Int) (s3 : Int) : T := mkT 19 [(0, (.tv (.sl (.st 0)) s0)), (1, (.fn 59 [(.imp (.sl .bool) s1 0)])), (7, (.tv i64 s2)), (8, (.tv i64 s3))]
def f76_2.H0 (s0 : LM) (s1 : LB) (s2 : Int) (s3 : Int) : H := []
def f76_2.T0_e0 : T := mkT 19 []
def f76_2.H0_e0 : H := []
def f76_2.T0_r (z5 : Int) : T := mkT 19 [(4, (.tv i64 z5))]
def f76_2.H0_r (z5 : Int) : H := []
def f76_2.p0_e0' {R : Type} (L N : Nat) (k : Int → Option R) : Option R :=
  k (-1 : Int)
def f76_2.p0_e0 {R : Type} (L N : Nat) (k : Int → Option R) : Option R :=
  f76_2.p0_e0' L N k
def f76_2.p0_r' {R : Type} (L N : Nat) (k : Int → Option R) (z5 : Int) : Option R :=
  k z5
def f76_2.p0_r {R : Type} (L N : Nat) (k : Int → Option R) (z5 : Int) : Option R :=
  f76_2.p0_r' L N k z5
def f76_2.b' {R : Type} (L N : Nat) (k : Int → Option R) (w0 : LM → LB → Int → Int → Option R) (x0 : LM) (x1 : LB) : Option R :=
  w0 x0 x1 (x0.length : Int) (0 : Int)
def f76_2.b {R : Type} (L N : Nat) (k : Int → Option R) (x0 : LM) (x1 : LB) : Option R :=
  f76_2.b' L N k (fun s0 s1 s2 s3 => f76_2.l0 L N (f76_2.p0_e0 L N k) (fun z5 => f76_2.p0_r L N k z5) L s0 s1 s2 s3) x0 x1
def f76_2 (L N : Nat) (x0 : LM) (x1 : LB) : Option (Int) := f76_2.b L N some x0 x1
def f76_2.ent (L N : Nat) := entRf [(.dat (.sl (.st 0))), (.fn 59 [(.imp (.sl .bool) 0)])] (.one i64) fun d => f76_2 L N d.1 d.2.1.1
noncomputable def E76_2 (L N : Nat) : Env := { P := Tryz.prog, ty := tyOf, Φ := (Φ59_1 L N), inl := inlT, live := lives, liveX := livesX, L := L, dp := none, prom := promT, heal := healT, ren := renT }
noncomputable def f76_2.c0 : Code := loopAt 0 (codeOf Tryz.f76)
def f76_2.X0_e0 {R : Type} (κ : KX R) := κ (.exit 0) f76_2.T0_e0 f76_2.H0_e0
def f76_2.X0_r {R : Type} (κ : KX R) := fun z5 => κ .ret (f76_2.T0_r z5) (f76_2.H0_r z5)
def f76_2.R0 {R : Type} (rec : KT R) := fun s0 s1 s2 s3 => rec (f76_2.T0 s0 s1 s2 s3) (f76_2.H0 s0 s1 s2 s3)
theorem f76_2.s0_eq {R : Type} (L N : Nat) (κ : KX R) (rec : KT R) (s0 : LM) (s1 : LB) (s2 : Int) (s3 : Int) :
    evRd (E76_2 L N) (evCallI (E76_2 L N) 0 1000) 1000 76 19 0 f76_2.c0 κ rec (f76_2.T0 s0 s1 s2 s3) (f76_2.H0 s0 s1 s2 s3)
    = f76_2.s0 L N (f76_2.X0_e0 κ) (f76_2.X0_r κ) (f76_2.R0 rec) s0 s1 s2 s3 := by kernel_rfl
theorem f76_2.l0_eq {R : Type} (L N : Nat) (κ : KX R) : ∀ (n : Nat) (s0 : LM) (s1 : LB) (s2 : Int) (s3 : Int),
    evLp (E76_2 L N) (evCallI (E76_2 L N) 0 1000) 1000 76 19 0 f76_2.c0 κ n (f76_2.T0 s0 s1 s2 s3) (f76_2.H0 s0 s1 s2 s3)
    = f76_2.l0 L N (f76_2.X0_e0 κ) (f76_2.X0_r κ) n s0 s1 s2 s3 := by
  intro n
  induction n with
  | zero => intros; rfl
  | succ n ih =>
    intro s0 s1 s2 s3
    rw [evLp_succ, f76_2.s0_eq]
    delta f76_2.R0
    simp only [ih]
    rfl
theorem f76_2.p0_e0_eq {R : Type} (L N : Nat) (κ : AV → Option R) :
    (contAt (E76_2 L N) (evCallI (E76_2 L N) 0 1000) 1000 76 19 0 (codeOf Tryz.f76) (finK (E76_2 L N) 1000 Tryz.f76 (finC (.one i64) κ))) (.exit 0) f76_2.T0_e0 f76_2.H0_e0
    = f76_2.p0_e0 L N (fun a0 => κ (.tv i64 a0)) := by kernel_rfl
theorem f76_2.p0_r_eq {R : Type} (L N : Nat) (κ : AV → Option R) (z5 : Int) :
    (contAt (E76_2 L N) (evCallI (E76_2 L N) 0 1000) 1000 76 19 0 (codeOf Tryz.f76) (finK (E76_2 L N) 1000 Tryz.f76 (finC (.one i64) κ))) .ret (f76_2.T0_r z5) (f76_2.H0_r z5)
    = f76_2.p0_r L N (fun a0 => κ (.tv i64 a0)) z5 := by kernel_rfl
theorem f76_2.b_eq {R : Type} (L N : Nat) (κ : AV → Option R) (x0 : LM) (x1 : LB) :
    evBody (E76_2 L N) (evCallI (E76_2 L N) 0 1000) 1000 76 Tryz.f76 [(.tv (.sl (.st 0)) x0), (.fn 59 [(.imp (.sl .bool) x1 0)])] [] [] (finC (.one i64) κ)
    = f76_2.b L N (fun a0 => κ (.tv i64 a0)) x0 x1 := by
  refine Eq.trans (b := f76_2.b' L N (fun a0 => κ (.tv i64 a0)) (fun s0 s1 s2 s3 => evLp (E76_2 L N) (evCallI (E76_2 L N) 0 1000) 1000 76 19 0 f76_2.c0 (contAt (E76_2 L N) (evCallI (E76_2 L N) 0 1000) 1000 76 19 0 (codeOf Tryz.f76) (finK (E76_2 L N) 1000 Tryz.f76 (finC (.one i64) κ))) L (f76_2.T0 s0 s1 s2 s3) (f76_2.H0 s0 s1 s2 s3)) x0 x1) (by kernel_rfl) ?_
  unfold f76_2.b
  simp only [f76_2.l0_eq]
  delta f76_2.X0_e0 f76_2.X0_r
  simp only [f76_2.p0_e0_eq, f76_2.p0_r_eq]
theorem f76_2.ok (L N : Nat) (hΦ : TellsOk Tryz.prog ((Φ59_1 L N))) : EntOkO Tryz.prog 76 (f76_2.ent L N) := entRf_ok (E := (E76_2 L N)) (dep := 1000) (f := Tryz.f76) (sound_of hΦ) okP (callI_sound (sound_of hΦ) okP 0 1000) rfl rfl fun d _ hy => (f76_2.b_eq L N (unR (.one i64)) d.1 d.2.1.1).trans (Eq.trans (b := f76_2.b L N some d.1 d.2.1.1) (by kernel_rfl) hy)
def Φ76_2 (L N : Nat) : Tells := (addO (Φ59_1 L N) 76 (f76_2.ent L N))
theorem Φ76_2_ok (L N : Nat) : TellsOk Tryz.prog (Φ76_2 L N) := addO_ok (Φ59_1_ok L N) (f76_2.ok L N (Φ59_1_ok L N))
def f58_1.b' {R : Type} (L N : Nat) (k : Bool → Option R) (x0 : LM) (x1 : LB) : Option R :=
  (f76_2 L N x0 x1).bind fun y0 =>
  k (decide (y0 ≥ (0 : Int)))
def f58_1.b {R : Type} (L N : Nat) (k : Bool → Option R) (x0 : LM) (x1 : LB) : Option R :=
  f58_1.b' L N k x0 x1
def f58_1 (L N : Nat) (x0 : LM) (x1 : LB) : Option (Bool) := f58_1.b L N some x0 x1
def f58_1.ent (L N : Nat) := entRf [(.dat (.sl (.st 0))), (.fn 59 [(.imp (.sl .bool) 0)])] (.one .bool) fun d => f58_1 L N d.1 d.2.1.1
noncomputable def E58_1 (L N : Nat) : Env := { P := Tryz.prog, ty := tyOf, Φ := (Φ76_2 L N), inl := inlT, live := lives, liveX := livesX, L := L, dp := none, prom := promT, heal := healT, ren := renT }
theorem f58_1.b_eq {R : Type} (L N : Nat) (κ : AV → Option R) (x0 : LM) (x1 : LB) :
    evBody (E58_1 L N) (evCallI (E58_1 L N) 0 1000) 1000 58 Tryz.f58 [(.tv (.sl (.st 0)) x0), (.fn 59 [(.imp (.sl .bool) x1 0)])] [] [] (finC (.one .bool) κ)
    = f58_1.b L N (fun a0 => κ (.tv .bool a0)) x0 x1 := by kernel_rfl
theorem f58_1.ok (L N : Nat) (hΦ : TellsOk Tryz.prog ((Φ76_2 L N))) : EntOkO Tryz.prog 58 (f58_1.ent L N) := entRf_ok (E := (E58_1 L N)) (dep := 1000) (f := Tryz.f58) (sound_of hΦ) okP (callI_sound (sound_of hΦ) okP 0 1000) rfl rfl fun d _ hy => (f58_1.b_eq L N (unR (.one .bool)) d.1 d.2.1.1).trans (Eq.trans (b := f58_1.b L N some d.1 d.2.1.1) (by kernel_rfl) hy)
def Φ58_1 (L N : Nat) : Tells := (addO (Φ76_2 L N) 58 (f58_1.ent L N))
theorem Φ58_1_ok (L N : Nat) : TellsOk Tryz.prog (Φ58_1 L N) := addO_ok (Φ76_2_ok L N) (f58_1.ok L N (Φ76_2_ok L N))
def f32.b' {R : Type} (L N : Nat) (k : Bool → Option R) (x0 : Graph) (x1 : Int) (x2 : LB) : Option R :=
  (f57 L N (Graph.mk x0.moves) x1).bind fun y0 =>
  bif y0 then
    bif (decide (0 ≤ x1) && decide (x1 < (x0.moves.length : Int))) then
      (f58_1 L N (listAt x0.moves [] x1.toNat) x2).bind fun y1 =>
      k (!y1)
    else none
  else k false
def f32.b {R : Type} (L N : Nat) (k : Bool → Option R) (x0 : Graph) (x1 : Int) (x2 : LB) : Option R :=
  f32.b' L N k x0 x1 x2
def f32 (L N : Nat) (x0 : Graph) (x1 : Int) (x2 : LB) : Option (Bool) := f32.b L N some x0 x1 x2
def f32.ent (L N : Nat) := entRo [(.st 2), i64, (.sl .bool)] (.one .bool) fun d => f32 L N d.1 d.2.1 d.2.2.1
noncomputable def E32 (L N : Nat) : Env := { P := Tryz.prog, ty := tyOf, Φ := (Φ58_1 L N), inl := inlT, live := lives, liveX := livesX, L := L, dp := none, prom := promT, heal := healT, ren := renT }
theorem f32.b_eq {R : Type} (L N : Nat) (κ : AV → Option R) (x0 : Graph) (x1 : Int) (x2 : LB) :
    evBody (E32 L N) (evCallI (E32 L N) 0 1000) 1000 32 Tryz.f32 [(.tv (.st 2) x0), (.tv i64 x1), (.tv (.sl .bool) x2)] [] [] (finC (.one .bool) κ)
    = f32.b L N (fun a0 => κ (.tv .bool a0)) x0 x1 x2 := by kernel_rfl
theorem f32.ok (L N : Nat) (hΦ : TellsOk Tryz.prog ((Φ58_1 L N))) : EntOk Tryz.prog 32 (f32.ent L N) := entRo_ok (E := (E32 L N)) (dep := 1000) (f := Tryz.f32) (sound_of hΦ) okP (callI_sound (sound_of hΦ) okP 0 1000) rfl rfl fun d _ hy => (f32.b_eq L N (unR (.one .bool)) d.1 d.2.1 d.2.2.1).trans (Eq.trans (b := f32.b L N some d.1 d.2.1 d.2.2.1) (by kernel_rfl) hy)
def Φ32 (L N : Nat) : Tells := (addT (Φ58_1 L N) 32 (f32.ent L N))
theorem Φ32_ok (L N : Nat) : TellsOk Tryz.prog (Φ32 L N) := addT_ok (Φ58_1_ok L N) (f32.ok L N (Φ58_1_ok L N))
def f31_1.b' {R : Type} (L N : Nat) (k : Bool → Option R) (x0 : Int) (x1 : LLM) (x2 : LB) : Option R :=
  (f32 L N (Graph.mk x1) x0 x2).bind fun y0 =>
  k y0
def f31_1.b {R : Type} (L N : Nat) (k : Bool → Option R) (x0 : Int) (x1 : LLM) (x2 : LB) : Option R :=
  f31_1.b' L N k x0 x1 x2
def f31_1 (L N : Nat) (x0 : Int) (x1 : LLM) (x2 : LB) : Option (Bool) := f31_1.b L N some x0 x1 x2
def f31_1.ent (L N : Nat) := entRf [(.dat i64), (.imp (.sl (.sl (.st 0))) 0), (.imp (.sl .bool) 0)] (.one .bool) fun d => f31_1 L N d.1 d.2.1 d.2.2.1
noncomputable def E31_1 (L N : Nat) : Env := { P := Tryz.prog, ty := tyOf, Φ := (Φ32 L N), inl := inlT, live := lives, liveX := livesX, L := L, dp := none, prom := promT, heal := healT, ren := renT }
theorem f31_1.b_eq {R : Type} (L N : Nat) (κ : AV → Option R) (x0 : Int) (x1 : LLM) (x2 : LB) :
    evBody (E31_1 L N) (evCallI (E31_1 L N) 0 1000) 1000 31 Tryz.f31 [(.tv i64 x0), (.imp (.sl (.sl (.st 0))) x1 0), (.imp (.sl .bool) x2 0)] [] [] (finC (.one .bool) κ)
    = f31_1.b L N (fun a0 => κ (.tv .bool a0)) x0 x1 x2 := by kernel_rfl
theorem f31_1.ok (L N : Nat) (hΦ : TellsOk Tryz.prog ((Φ32 L N))) : EntOkO Tryz.prog 31 (f31_1.ent L N) := entRf_ok (E := (E31_1 L N)) (dep := 1000) (f := Tryz.f31) (sound_of hΦ) okP (callI_sound (sound_of hΦ) okP 0 1000) rfl rfl fun d _ hy => (f31_1.b_eq L N (unR (.one .bool)) d.1 d.2.1 d.2.2.1).trans (Eq.trans (b := f31_1.b L N some d.1 d.2.1 d.2.2.1) (by kernel_rfl) hy)
def Φ31_1 (L N : Nat) : Tells := (addO (Φ32 L N) 31 (f31_1.ent L N))
theorem Φ31_1_ok (L N : Nat) : TellsOk Tryz.prog (Φ31_1 L N) := addO_ok (Φ32_ok L N) (f31_1.ok L N (Φ32_ok L N))
def f54_2.s0' {R : Type} (L N : Nat) (k0_e0 : Option R) (k0_r : Int → Option R) (rec0 : LI → LLM → LB → Int → Int → Option R) (s0 : LI) (s1 : LLM) (s2 : LB) (s3 : Int) (s4 : Int) : Option R :=
  bif (decide (s4 < s3)) then
    bif (decide (0 ≤ s4) && decide (s4 < (s0.length : Int))) then
      (f31_1 L N (listAt s0 (0 : Int) s4.toNat) s1 s2).bind fun y5 =>
      bif y5 then
        k0_r s4
      else rec0 s0 s1 s2 s3 (wi (s4 + (1 : Int)))
    else none
  else k0_e0
def f54_2.s0 {R : Type} (L N : Nat) (k0_e0 : Option R) (k0_r : Int → Option R) (rec0 : LI → LLM → LB → Int → Int → Option R) (s0 : LI) (s1 : LLM) (s2 : LB) (s3 : Int) (s4 : Int) : Option R :=
  f54_2.s0' L N k0_e0 k0_r rec0 s0 s1 s2 s3 s4
def f54_2.l0 {R : Type} (L N : Nat) (k0_e0 : Option R) (k0_r : Int → Option R) : Nat → LI → LLM → LB → Int → Int → Option R
  | 0, _, _, _, _, _ => none
  | n + 1, s0, s1, s2, s3, s4 => f54_2.s0 L N k0_e0 k0_r (f54_2.l0 L N k0_e0 k0_r n) s0 s1 s2 s3 s4
def f54_2.T0 (s0 : LI) (s1 : LLM) (s2 : LB) (s3 : Int) (s4 : Int) : T := mkT 19 [(0, (.tv (.sl i64) s0)), (1, (.fn 31 [(.imp (.sl (.sl (.st 0))) s1 0), (.imp (.sl .bool) s2 0)])), (7, (.tv i64 s3)), (8, (.tv i64 s4))]
def f54_2.H0 (s0 : LI) (s1 : LLM) (s2 : LB) (s3 : Int) (s4 : Int) : H := []
def f54_2.T0_e0 : T := mkT 19 []
def f54_2.H0_e0 : H := []
def f54_2.T0_r (z6 : Int) : T := mkT 19 [(4, (.tv i64 z6))]
def f54_2.H0_r (z6 : Int) : H := []
def f54_2.p0_e0' {R : Type} (L N : Nat) (k : Int → Option R) : Option R :=
  k (-1 : Int)
def f54_2.p0_e0 {R : Type} (L N : Nat) (k : Int → Option R) : Option R :=
  f54_2.p0_e0' L N k
def f54_2.p0_r' {R : Type} (L N : Nat) (k : Int → Option R) (z6 : Int) : Option R :=
  k z6
def f54_2.p0_r {R : Type} (L N : Nat) (k : Int → Option R) (z6 : Int) : Option R :=
  f54_2.p0_r' L N k z6
def f54_2.b' {R : Type} (L N : Nat) (k : Int → Option R) (w0 : LI → LLM → LB → Int → Int → Option R) (x0 : LI) (x1 : LLM) (x2 : LB) : Option R :=
  w0 x0 x1 x2 (x0.length : Int) (0 : Int)
def f54_2.b {R : Type} (L N : Nat) (k : Int → Option R) (x0 : LI) (x1 : LLM) (x2 : LB) : Option R :=
  f54_2.b' L N k (fun s0 s1 s2 s3 s4 => f54_2.l0 L N (f54_2.p0_e0 L N k) (fun z6 => f54_2.p0_r L N k z6) L s0 s1 s2 s3 s4) x0 x1 x2
def f54_2 (L N : Nat) (x0 : LI) (x1 : LLM) (x2 : LB) : Option (Int) := f54_2.b L N some x0 x1 x2
def f54_2.ent (L N : Nat) := entRf [(.dat (.sl i64)), (.fn 31 [(.imp (.sl (.sl (.st 0))) 0), (.imp (.sl .bool) 0)])] (.one i64) fun d => f54_2 L N d.1 d.2.1.1 d.2.1.2.1
noncomputable def E54_2 (L N : Nat) : Env := { P := Tryz.prog, ty := tyOf, Φ := (Φ31_1 L N), inl := inlT, live := lives, liveX := livesX, L := L, dp := none, prom := promT, heal := healT, ren := renT }
noncomputable def f54_2.c0 : Code := loopAt 0 (codeOf Tryz.f54)
def f54_2.X0_e0 {R : Type} (κ : KX R) := κ (.exit 0) f54_2.T0_e0 f54_2.H0_e0
def f54_2.X0_r {R : Type} (κ : KX R) := fun z6 => κ .ret (f54_2.T0_r z6) (f54_2.H0_r z6)
def f54_2.R0 {R : Type} (rec : KT R) := fun s0 s1 s2 s3 s4 => rec (f54_2.T0 s0 s1 s2 s3 s4) (f54_2.H0 s0 s1 s2 s3 s4)
theorem f54_2.s0_eq {R : Type} (L N : Nat) (κ : KX R) (rec : KT R) (s0 : LI) (s1 : LLM) (s2 : LB) (s3 : Int) (s4 : Int) :
    evRd (E54_2 L N) (evCallI (E54_2 L N) 0 1000) 1000 54 19 0 f54_2.c0 κ rec (f54_2.T0 s0 s1 s2 s3 s4) (f54_2.H0 s0 s1 s2 s3 s4)
    = f54_2.s0 L N (f54_2.X0_e0 κ) (f54_2.X0_r κ) (f54_2.R0 rec) s0 s1 s2 s3 s4 := by kernel_rfl
theorem f54_2.l0_eq {R : Type} (L N : Nat) (κ : KX R) : ∀ (n : Nat) (s0 : LI) (s1 : LLM) (s2 : LB) (s3 : Int) (s4 : Int),
    evLp (E54_2 L N) (evCallI (E54_2 L N) 0 1000) 1000 54 19 0 f54_2.c0 κ n (f54_2.T0 s0 s1 s2 s3 s4) (f54_2.H0 s0 s1 s2 s3 s4)
    = f54_2.l0 L N (f54_2.X0_e0 κ) (f54_2.X0_r κ) n s0 s1 s2 s3 s4 := by
  intro n
  induction n with
  | zero => intros; rfl
  | succ n ih =>
    intro s0 s1 s2 s3 s4
    rw [evLp_succ, f54_2.s0_eq]
    delta f54_2.R0
    simp only [ih]
    rfl
theorem f54_2.p0_e0_eq {R : Type} (L N : Nat) (κ : AV → Option R) :
    (contAt (E54_2 L N) (evCallI (E54_2 L N) 0 1000) 1000 54 19 0 (codeOf Tryz.f54) (finK (E54_2 L N) 1000 Tryz.f54 (finC (.one i64) κ))) (.exit 0) f54_2.T0_e0 f54_2.H0_e0
    = f54_2.p0_e0 L N (fun a0 => κ (.tv i64 a0)) := by kernel_rfl
theorem f54_2.p0_r_eq {R : Type} (L N : Nat) (κ : AV → Option R) (z6 : Int) :
    (contAt (E54_2 L N) (evCallI (E54_2 L N) 0 1000) 1000 54 19 0 (codeOf Tryz.f54) (finK (E54_2 L N) 1000 Tryz.f54 (finC (.one i64) κ))) .ret (f54_2.T0_r z6) (f54_2.H0_r z6)
    = f54_2.p0_r L N (fun a0 => κ (.tv i64 a0)) z6 := by kernel_rfl
theorem f54_2.b_eq {R : Type} (L N : Nat) (κ : AV → Option R) (x0 : LI) (x1 : LLM) (x2 : LB) :
    evBody (E54_2 L N) (evCallI (E54_2 L N) 0 1000) 1000 54 Tryz.f54 [(.tv (.sl i64) x0), (.fn 31 [(.imp (.sl (.sl (.st 0))) x1 0), (.imp (.sl .bool) x2 0)])] [] [] (finC (.one i64) κ)
    = f54_2.b L N (fun a0 => κ (.tv i64 a0)) x0 x1 x2 := by
  refine Eq.trans (b := f54_2.b' L N (fun a0 => κ (.tv i64 a0)) (fun s0 s1 s2 s3 s4 => evLp (E54_2 L N) (evCallI (E54_2 L N) 0 1000) 1000 54 19 0 f54_2.c0 (contAt (E54_2 L N) (evCallI (E54_2 L N) 0 1000) 1000 54 19 0 (codeOf Tryz.f54) (finK (E54_2 L N) 1000 Tryz.f54 (finC (.one i64) κ))) L (f54_2.T0 s0 s1 s2 s3 s4) (f54_2.H0 s0 s1 s2 s3 s4)) x0 x1 x2) (by kernel_rfl) ?_
  unfold f54_2.b
  simp only [f54_2.l0_eq]
  delta f54_2.X0_e0 f54_2.X0_r
  simp only [f54_2.p0_e0_eq, f54_2.p0_r_eq]
theorem f54_2.ok (L N : Nat) (hΦ : TellsOk Tryz.prog ((Φ31_1 L N))) : EntOkO Tryz.prog 54 (f54_2.ent L N) := entRf_ok (E := (E54_2 L N)) (dep := 1000) (f := Tryz.f54) (sound_of hΦ) okP (callI_sound (sound_of hΦ) okP 0 1000) rfl rfl fun d _ hy => (f54_2.b_eq L N (unR (.one i64)) d.1 d.2.1.1 d.2.1.2.1).trans (Eq.trans (b := f54_2.b L N some d.1 d.2.1.1 d.2.1.2.1) (by kernel_rfl) hy)
def Φ54_2 (L N : Nat) : Tells := (addO (Φ31_1 L N) 54 (f54_2.ent L N))
theorem Φ54_2_ok (L N : Nat) : TellsOk Tryz.prog (Φ54_2 L N) := addO_ok (Φ31_1_ok L N) (f54_2.ok L N (Φ31_1_ok L N))
def f29_2.b' {R : Type} (L N : Nat) (k : Bool → Option R) (x0 : LI) (x1 : LLM) (x2 : LB) : Option R :=
  (f54_2 L N x0 x1 x2).bind fun y0 =>
  k (decide (y0 ≥ (0 : Int)))
def f29_2.b {R : Type} (L N : Nat) (k : Bool → Option R) (x0 : LI) (x1 : LLM) (x2 : LB) : Option R :=
  f29_2.b' L N k x0 x1 x2
def f29_2 (L N : Nat) (x0 : LI) (x1 : LLM) (x2 : LB) : Option (Bool) := f29_2.b L N some x0 x1 x2
def f29_2.ent (L N : Nat) := entRf [(.dat (.sl i64)), (.fn 31 [(.imp (.sl (.sl (.st 0))) 0), (.imp (.sl .bool) 0)])] (.one .bool) fun d => f29_2 L N d.1 d.2.1.1 d.2.1.2.1
noncomputable def E29_2 (L N : Nat) : Env := { P := Tryz.prog, ty := tyOf, Φ := (Φ54_2 L N), inl := inlT, live := lives, liveX := livesX, L := L, dp := none, prom := promT, heal := healT, ren := renT }
theorem f29_2.b_eq {R : Type} (L N : Nat) (κ : AV → Option R) (x0 : LI) (x1 : LLM) (x2 : LB) :
    evBody (E29_2 L N) (evCallI (E29_2 L N) 0 1000) 1000 29 Tryz.f29 [(.tv (.sl i64) x0), (.fn 31 [(.imp (.sl (.sl (.st 0))) x1 0), (.imp (.sl .bool) x2 0)])] [] [] (finC (.one .bool) κ)
    = f29_2.b L N (fun a0 => κ (.tv .bool a0)) x0 x1 x2 := by kernel_rfl
theorem f29_2.ok (L N : Nat) (hΦ : TellsOk Tryz.prog ((Φ54_2 L N))) : EntOkO Tryz.prog 29 (f29_2.ent L N) := entRf_ok (E := (E29_2 L N)) (dep := 1000) (f := Tryz.f29) (sound_of hΦ) okP (callI_sound (sound_of hΦ) okP 0 1000) rfl rfl fun d _ hy => (f29_2.b_eq L N (unR (.one .bool)) d.1 d.2.1.1 d.2.1.2.1).trans (Eq.trans (b := f29_2.b L N some d.1 d.2.1.1 d.2.1.2.1) (by kernel_rfl) hy)
def Φ29_2 (L N : Nat) : Tells := (addO (Φ54_2 L N) 29 (f29_2.ent L N))
theorem Φ29_2_ok (L N : Nat) : TellsOk Tryz.prog (Φ29_2 L N) := addO_ok (Φ54_2_ok L N) (f29_2.ok L N (Φ54_2_ok L N))
def f11.b' {R : Type} (L N : Nat) (k : Bool → Option R) (x0 : Graph) (x1 : LI) (x2 : LB) : Option R :=
  (f21 L N (Graph.mk x0.moves)).bind fun y0 =>
  bif y0 then
    (f27 L N x1).bind fun y1 =>
    bif y1 then
      (f28 L N x2).bind fun y2 =>
      bif y2 then
        (f30 L N (Graph.mk x0.moves) x1).bind fun y3 =>
        (f29_2 L N y3 x0.moves x2).bind fun y4 =>
        k y4
      else k false
    else k false
  else k false
def f11.b {R : Type} (L N : Nat) (k : Bool → Option R) (x0 : Graph) (x1 : LI) (x2 : LB) : Option R :=
  f11.b' L N k x0 x1 x2
def f11 (L N : Nat) (x0 : Graph) (x1 : LI) (x2 : LB) : Option (Bool) := f11.b L N some x0 x1 x2
def f11.ent (L N : Nat) := entRo [(.st 2), (.sl i64), (.sl .bool)] (.one .bool) fun d => f11 L N d.1 d.2.1 d.2.2.1
noncomputable def E11 (L N : Nat) : Env := { P := Tryz.prog, ty := tyOf, Φ := (Φ29_2 L N), inl := inlT, live := lives, liveX := livesX, L := L, dp := none, prom := promT, heal := healT, ren := renT }
theorem f11.b_eq {R : Type} (L N : Nat) (κ : AV → Option R) (x0 : Graph) (x1 : LI) (x2 : LB) :
    evBody (E11 L N) (evCallI (E11 L N) 0 1000) 1000 11 Tryz.f11 [(.tv (.st 2) x0), (.tv (.sl i64) x1), (.tv (.sl .bool) x2)] [] [] (finC (.one .bool) κ)
    = f11.b L N (fun a0 => κ (.tv .bool a0)) x0 x1 x2 := by kernel_rfl
theorem f11.ok (L N : Nat) (hΦ : TellsOk Tryz.prog ((Φ29_2 L N))) : EntOk Tryz.prog 11 (f11.ent L N) := entRo_ok (E := (E11 L N)) (dep := 1000) (f := Tryz.f11) (sound_of hΦ) okP (callI_sound (sound_of hΦ) okP 0 1000) rfl rfl fun d _ hy => (f11.b_eq L N (unR (.one .bool)) d.1 d.2.1 d.2.2.1).trans (Eq.trans (b := f11.b L N some d.1 d.2.1 d.2.2.1) (by kernel_rfl) hy)
def Φ11 (L N : Nat) : Tells := (addT (Φ29_2 L N) 11 (f11.ent L N))
theorem Φ11_ok (L N : Nat) : TellsOk Tryz.prog (Φ11 L N) := addT_ok (Φ29_2_ok L N) (f11.ok L N (Φ29_2_ok L N))
def f17.s1' {R : Type} (L N : Nat) (k1_e2 : Int → LLM → Option R) (k1_r : Bool → Int → LLM → Option R) (rec1 : Int → Int → LLM → Option R) (s3 : Int) (s4 : Int) (s5 : LLM) : Option R :=
  bif (decide (0 ≤ s3) && decide (s3 < (s5.length : Int))) then
    bif (decide (s4 < ((listAt s5 [] s3.toNat).length : Int))) then
      bif (decide (0 ≤ s3) && decide (s3 < (s5.length : Int))) then
        bif (decide (0 ≤ s4) && decide (s4 < ((listAt s5 [] s3.toNat).length : Int))) then
          (f41 L N ((listAt (listAt s5 [] s3.toNat) (Ty.dflt (.st 0)) s4.toNat).act)).bind fun y8 =>
          bif (!y8) then
            k1_r false s3 s5
          else (f40 L N ((listAt (listAt s5 [] s3.toNat) (Ty.dflt (.st 0)) s4.toNat).to) (0 : Int) (wi ((s5.length : Int) - (1 : Int)))).bind fun y9 =>
          bif (!y9) then
            k1_r false s3 s5
          else bif (decide (s4 > (0 : Int))) then
            bif (decide (0 ≤ s3) && decide (s3 < (s5.length : Int))) then
              bif (decide (0 ≤ (wi (s4 - (1 : Int)))) && decide ((wi (s4 - (1 : Int))) < ((listAt s5 [] s3.toNat).length : Int))) then
                (f42 L N (listAt (listAt s5 [] s3.toNat) (Ty.dflt (.st 0)) (wi (s4 - (1 : Int))).toNat) (Move.mk ((listAt (listAt s5 [] s3.toNat) (Ty.dflt (.st 0)) s4.toNat).act) ((listAt (listAt s5 [] s3.toNat) (Ty.dflt (.st 0)) s4.toNat).to))).bind fun y10 =>
                bif (!y10) then
                  k1_r false s3 s5
                else rec1 s3 (wi (s4 + (1 : Int))) s5
              else none
            else none
          else rec1 s3 (wi (s4 + (1 : Int))) s5
        else none
      else none
    else k1_e2 s3 s5
  else none
def f17.s1 {R : Type} (L N : Nat) (k1_e2 : Int → LLM → Option R) (k1_r : Bool → Int → LLM → Option R) (rec1 : Int → Int → LLM → Option R) (s3 : Int) (s4 : Int) (s5 : LLM) : Option R :=
  f17.s1' L N k1_e2 k1_r rec1 s3 s4 s5
def f17.l1 {R : Type} (L N : Nat) (k1_e2 : Int → LLM → Option R) (k1_r : Bool → Int → LLM → Option R) : Nat → Int → Int → LLM → Option R
  | 0, _, _, _ => none
  | n + 1, s3, s4, s5 => f17.s1 L N k1_e2 k1_r (f17.l1 L N k1_e2 k1_r n) s3 s4 s5
def f17.T1 (s3 : Int) (s4 : Int) (s5 : LLM) : T := mkT 68 [(1, (.ptr 1001 0)), (3, (.tv i64 s3)), (4, (.tv i64 s4))]
def f17.H1 (s3 : Int) (s4 : Int) (s5 : LLM) : H := [(1001, (.box [(.tv (.sl (.sl (.st 0))) s5)]))]
def f17.T1_e2 (z6 : Int) (z7 : LLM) : T := mkT 68 [(1, (.ptr 1001 0)), (3, (.tv i64 z6))]
def f17.H1_e2 (z6 : Int) (z7 : LLM) : H := [(1001, (.box [(.tv (.sl (.sl (.st 0))) z7)]))]
def f17.T1_r (z15 : Bool) (z16 : Int) (z17 : LLM) : T := mkT 68 [(1, (.ptr 1001 0)), (2, (.tv .bool z15)), (3, (.tv i64 z16))]
def f17.H1_r (z15 : Bool) (z16 : Int) (z17 : LLM) : H := [(1001, (.box [(.tv (.sl (.sl (.st 0))) z17)]))]
def f17.p1_e2' {R : Type} (L N : Nat) (k0_e0 : Option R) (k0_r : Bool → Option R) (rec0 : Int → LLM → Option R) (z6 : Int) (z7 : LLM) : Option R :=
  rec0 (wi (z6 + (1 : Int))) z7
def f17.p1_e2 {R : Type} (L N : Nat) (k0_e0 : Option R) (k0_r : Bool → Option R) (rec0 : Int → LLM → Option R) (z6 : Int) (z7 : LLM) : Option R :=
  f17.p1_e2' L N k0_e0 k0_r rec0 z6 z7
def f17.p1_r' {R : Type} (L N : Nat) (k0_e0 : Option R) (k0_r : Bool → Option R) (rec0 : Int → LLM → Option R) (z15 : Bool) (z16 : Int) (z17 : LLM) : Option R :=
  k0_r z15
def f17.p1_r {R : Type} (L N : Nat) (k0_e0 : Option R) (k0_r : Bool → Option R) (rec0 : Int → LLM → Option R) (z15 : Bool) (z16 : Int) (z17 : LLM) : Option R :=
  f17.p1_r' L N k0_e0 k0_r rec0 z15 z16 z17
def f17.s0' {R : Type} (L N : Nat) (k0_e0 : Option R) (k0_r : Bool → Option R) (rec0 : Int → LLM → Option R) (w1 : Int → Int → LLM → Option R) (s1 : Int) (s2 : LLM) : Option R :=
  bif (decide (s1 < (s2.length : Int))) then
    w1 s1 (0 : Int) s2
  else k0_e0
def f17.s0 {R : Type} (L N : Nat) (k0_e0 : Option R) (k0_r : Bool → Option R) (rec0 : Int → LLM → Option R) (s1 : Int) (s2 : LLM) : Option R :=
  f17.s0' L N k0_e0 k0_r rec0 (fun s3 s4 s5 => f17.l1 L N (fun z6 z7 => f17.p1_e2 L N k0_e0 k0_r rec0 z6 z7) (fun z15 z16 z17 => f17.p1_r L N k0_e0 k0_r rec0 z15 z16 z17) L s3 s4 s5) s1 s2
def f17.l0 {R : Type} (L N : Nat) (k0_e0 : Option R) (k0_r : Bool → Option R) : Nat → Int → LLM → Option R
  | 0, _, _ => none
  | n + 1, s1, s2 => f17.s0 L N k0_e0 k0_r (f17.l0 L N k0_e0 k0_r n) s1 s2
def f17.T0 (s1 : Int) (s2 : LLM) : T := mkT 68 [(1, (.ptr 1001 0)), (3, (.tv i64 s1))]
def f17.H0 (s1 : Int) (s2 : LLM) : H := [(1001, (.box [(.tv (.sl (.sl (.st 0))) s2)]))]
def f17.T0_e0 : T := mkT 68 []
def f17.H0_e0 : H := []
def f17.T0_r (z21 : Bool) : T := mkT 68 [(2, (.tv .bool z21))]
def f17.H0_r (z21 : Bool) : H := []
def f17.p0_e0' {R : Type} (L N : Nat) (k : Bool → Option R) : Option R :=
  k true
def f17.p0_e0 {R : Type} (L N : Nat) (k : Bool → Option R) : Option R :=
  f17.p0_e0' L N k
def f17.p0_r' {R : Type} (L N : Nat) (k : Bool → Option R) (z21 : Bool) : Option R :=
  k z21
def f17.p0_r {R : Type} (L N : Nat) (k : Bool → Option R) (z21 : Bool) : Option R :=
  f17.p0_r' L N k z21
def f17.b' {R : Type} (L N : Nat) (k : Bool → Option R) (w0 : Int → LLM → Option R) (x0 : Graph) : Option R :=
  (f40 L N (x0.moves.length : Int) (1 : Int) (60 : Int)).bind fun y0 =>
  bif (!y0) then
    k false
  else w0 (0 : Int) x0.moves
def f17.b {R : Type} (L N : Nat) (k : Bool → Option R) (x0 : Graph) : Option R :=
  f17.b' L N k (fun s1 s2 => f17.l0 L N (f17.p0_e0 L N k) (fun z21 => f17.p0_r L N k z21) L s1 s2) x0
def f17 (L N : Nat) (x0 : Graph) : Option (Bool) := f17.b L N some x0
def f17.ent (L N : Nat) := entRo [(.st 2)] (.one .bool) fun d => f17 L N d.1
noncomputable def E17 (L N : Nat) : Env := { P := Tryz.prog, ty := tyOf, Φ := (Φ11 L N), inl := inlT, live := lives, liveX := livesX, L := L, dp := none, prom := promT, heal := healT, ren := renT }
noncomputable def f17.c0 : Code := loopAt 0 (codeOf Tryz.f17)
noncomputable def f17.c1 : Code := loopAt 2 f17.c0
def f17.X1_e2 {R : Type} (κ : KX R) := fun z6 z7 => κ (.exit 2) (f17.T1_e2 z6 z7) (f17.H1_e2 z6 z7)
def f17.X1_r {R : Type} (κ : KX R) := fun z15 z16 z17 => κ .ret (f17.T1_r z15 z16 z17) (f17.H1_r z15 z16 z17)
def f17.R1 {R : Type} (rec : KT R) := fun s3 s4 s5 => rec (f17.T1 s3 s4 s5) (f17.H1 s3 s4 s5)
theorem f17.s1_eq {R : Type} (L N : Nat) (κ : KX R) (rec : KT R) (s3 : Int) (s4 : Int) (s5 : LLM) :
    evRd (E17 L N) (evCallI (E17 L N) 0 1000) 1000 17 68 2 f17.c1 κ rec (f17.T1 s3 s4 s5) (f17.H1 s3 s4 s5)
    = f17.s1 L N (f17.X1_e2 κ) (f17.X1_r κ) (f17.R1 rec) s3 s4 s5 := by kernel_rfl
theorem f17.l1_eq {R : Type} (L N : Nat) (κ : KX R) : ∀ (n : Nat) (s3 : Int) (s4 : Int) (s5 : LLM),
    evLp (E17 L N) (evCallI (E17 L N) 0 1000) 1000 17 68 2 f17.c1 κ n (f17.T1 s3 s4 s5) (f17.H1 s3 s4 s5)
    = f17.l1 L N (f17.X1_e2 κ) (f17.X1_r κ) n s3 s4 s5 := by
  intro n
  induction n with
  | zero => intros; rfl
  | succ n ih =>
    intro s3 s4 s5
    rw [evLp_succ, f17.s1_eq]
    delta f17.R1
    simp only [ih]
    rfl
def f17.X0_e0 {R : Type} (κ : KX R) := κ (.exit 0) f17.T0_e0 f17.H0_e0
def f17.X0_r {R : Type} (κ : KX R) := fun z21 => κ .ret (f17.T0_r z21) (f17.H0_r z21)
def f17.R0 {R : Type} (rec : KT R) := fun s1 s2 => rec (f17.T0 s1 s2) (f17.H0 s1 s2)
theorem f17.p1_e2_eq {R : Type} (L N : Nat) (κ : KX R) (rec : KT R) (z6 : Int) (z7 : LLM) :
    (contAt (E17 L N) (evCallI (E17 L N) 0 1000) 1000 17 68 2 f17.c0 (rdK (E17 L N) 1000 17 68 0 κ rec)) (.exit 2) (f17.T1_e2 z6 z7) (f17.H1_e2 z6 z7)
    = f17.p1_e2 L N (f17.X0_e0 κ) (f17.X0_r κ) (f17.R0 rec) z6 z7 := by kernel_rfl
theorem f17.p1_r_eq {R : Type} (L N : Nat) (κ : KX R) (rec : KT R) (z15 : Bool) (z16 : Int) (z17 : LLM) :
    (contAt (E17 L N) (evCallI (E17 L N) 0 1000) 1000 17 68 2 f17.c0 (rdK (E17 L N) 1000 17 68 0 κ rec)) .ret (f17.T1_r z15 z16 z17) (f17.H1_r z15 z16 z17)
    = f17.p1_r L N (f17.X0_e0 κ) (f17.X0_r κ) (f17.R0 rec) z15 z16 z17 := by kernel_rfl
theorem f17.s0_eq {R : Type} (L N : Nat) (κ : KX R) (rec : KT R) (s1 : Int) (s2 : LLM) :
    evRd (E17 L N) (evCallI (E17 L N) 0 1000) 1000 17 68 0 f17.c0 κ rec (f17.T0 s1 s2) (f17.H0 s1 s2)
    = f17.s0 L N (f17.X0_e0 κ) (f17.X0_r κ) (f17.R0 rec) s1 s2 := by
  refine Eq.trans (b := f17.s0' L N (f17.X0_e0 κ) (f17.X0_r κ) (f17.R0 rec) (fun s3 s4 s5 => evLp (E17 L N) (evCallI (E17 L N) 0 1000) 1000 17 68 2 f17.c1 (contAt (E17 L N) (evCallI (E17 L N) 0 1000) 1000 17 68 2 f17.c0 (rdK (E17 L N) 1000 17 68 0 κ rec)) L (f17.T1 s3 s4 s5) (f17.H1 s3 s4 s5)) s1 s2) (by kernel_rfl) ?_
  unfold f17.s0
  simp only [f17.l1_eq]
  delta f17.X1_e2 f17.X1_r
  simp only [f17.p1_e2_eq, f17.p1_r_eq]
theorem f17.l0_eq {R : Type} (L N : Nat) (κ : KX R) : ∀ (n : Nat) (s1 : Int) (s2 : LLM),
    evLp (E17 L N) (evCallI (E17 L N) 0 1000) 1000 17 68 0 f17.c0 κ n (f17.T0 s1 s2) (f17.H0 s1 s2)
    = f17.l0 L N (f17.X0_e0 κ) (f17.X0_r κ) n s1 s2 := by
  intro n
  induction n with
  | zero => intros; rfl
  | succ n ih =>
    intro s1 s2
    rw [evLp_succ, f17.s0_eq]
    delta f17.R0
    simp only [ih]
    rfl
theorem f17.p0_e0_eq {R : Type} (L N : Nat) (κ : AV → Option R) :
    (contAt (E17 L N) (evCallI (E17 L N) 0 1000) 1000 17 68 0 (codeOf Tryz.f17) (finK (E17 L N) 1000 Tryz.f17 (finC (.one .bool) κ))) (.exit 0) f17.T0_e0 f17.H0_e0
    = f17.p0_e0 L N (fun a0 => κ (.tv .bool a0)) := by kernel_rfl
theorem f17.p0_r_eq {R : Type} (L N : Nat) (κ : AV → Option R) (z21 : Bool) :
    (contAt (E17 L N) (evCallI (E17 L N) 0 1000) 1000 17 68 0 (codeOf Tryz.f17) (finK (E17 L N) 1000 Tryz.f17 (finC (.one .bool) κ))) .ret (f17.T0_r z21) (f17.H0_r z21)
    = f17.p0_r L N (fun a0 => κ (.tv .bool a0)) z21 := by kernel_rfl
theorem f17.b_eq {R : Type} (L N : Nat) (κ : AV → Option R) (x0 : Graph) :
    evBody (E17 L N) (evCallI (E17 L N) 0 1000) 1000 17 Tryz.f17 [(.tv (.st 2) x0)] [] [] (finC (.one .bool) κ)
    = f17.b L N (fun a0 => κ (.tv .bool a0)) x0 := by
  refine Eq.trans (b := f17.b' L N (fun a0 => κ (.tv .bool a0)) (fun s1 s2 => evLp (E17 L N) (evCallI (E17 L N) 0 1000) 1000 17 68 0 f17.c0 (contAt (E17 L N) (evCallI (E17 L N) 0 1000) 1000 17 68 0 (codeOf Tryz.f17) (finK (E17 L N) 1000 Tryz.f17 (finC (.one .bool) κ))) L (f17.T0 s1 s2) (f17.H0 s1 s2)) x0) (by kernel_rfl) ?_
  unfold f17.b
  simp only [f17.l0_eq]
  delta f17.X0_e0 f17.X0_r
  simp only [f17.p0_e0_eq, f17.p0_r_eq]
theorem f17.ok (L N : Nat) (hΦ : TellsOk Tryz.prog ((Φ11 L N))) : EntOk Tryz.prog 17 (f17.ent L N) := entRo_ok (E := (E17 L N)) (dep := 1000) (f := Tryz.f17) (sound_of hΦ) okP (callI_sound (sound_of hΦ) okP 0 1000) rfl rfl fun d _ hy => (f17.b_eq L N (unR (.one .bool)) d.1).trans (Eq.trans (b := f17.b L N some d.1) (by kernel_rfl) hy)
def Φ17 (L N : Nat) : Tells := (addT (Φ11 L N) 17 (f17.ent L N))
theorem Φ17_ok (L N : Nat) : TellsOk Tryz.prog (Φ17 L N) := addT_ok (Φ11_ok L N) (f17.ok L N (Φ11_ok L N))
def f18.s0' {R : Type} (L N : Nat) (k0_e0 : LI → Option R) (k0_r : LI → Bool → Option R) (rec0 : LI → Int → Option R) (s0 : LI) (s1 : Int) : Option R :=
  bif (decide (s1 < (s0.length : Int))) then
    bif (decide (0 ≤ s1) && decide (s1 < (s0.length : Int))) then
      (f41 L N (listAt s0 (0 : Int) s1.toNat)).bind fun y3 =>
      bif (!y3) then
        k0_r s0 false
      else bif (decide (0 ≤ s1) && decide (s1 < (s0.length : Int))) then
        bif ((listAt s0 (0 : Int) s1.toNat) == (0 : Int)) then
          k0_r s0 false
        else rec0 s0 (wi (s1 + (1 : Int)))
      else none
    else none
  else k0_e0 s0
def f18.s0 {R : Type} (L N : Nat) (k0_e0 : LI → Option R) (k0_r : LI → Bool → Option R) (rec0 : LI → Int → Option R) (s0 : LI) (s1 : Int) : Option R :=
  f18.s0' L N k0_e0 k0_r rec0 s0 s1
def f18.l0 {R : Type} (L N : Nat) (k0_e0 : LI → Option R) (k0_r : LI → Bool → Option R) : Nat → LI → Int → Option R
  | 0, _, _ => none
  | n + 1, s0, s1 => f18.s0 L N k0_e0 k0_r (f18.l0 L N k0_e0 k0_r n) s0 s1
def f18.T0 (s0 : LI) (s1 : Int) : T := mkT 26 [(0, (.tv (.sl i64) s0)), (3, (.tv i64 s1))]
def f18.H0 (s0 : LI) (s1 : Int) : H := []
def f18.T0_e0 (z2 : LI) : T := mkT 26 [(0, (.tv (.sl i64) z2))]
def f18.H0_e0 (z2 : LI) : H := []
def f18.T0_r (z7 : LI) (z8 : Bool) : T := mkT 26 [(0, (.tv (.sl i64) z7)), (2, (.tv .bool z8))]
def f18.H0_r (z7 : LI) (z8 : Bool) : H := []
def f18.p0_e0' {R : Type} (L N : Nat) (k : Bool → Option R) (z2 : LI) : Option R :=
  k (decide ((z2.length : Int) ≤ (20 : Int)))
def f18.p0_e0 {R : Type} (L N : Nat) (k : Bool → Option R) (z2 : LI) : Option R :=
  f18.p0_e0' L N k z2
def f18.p0_r' {R : Type} (L N : Nat) (k : Bool → Option R) (z7 : LI) (z8 : Bool) : Option R :=
  k z8
def f18.p0_r {R : Type} (L N : Nat) (k : Bool → Option R) (z7 : LI) (z8 : Bool) : Option R :=
  f18.p0_r' L N k z7 z8
def f18.b' {R : Type} (L N : Nat) (k : Bool → Option R) (w0 : LI → Int → Option R) (x0 : LI) : Option R :=
  w0 x0 (0 : Int)
def f18.b {R : Type} (L N : Nat) (k : Bool → Option R) (x0 : LI) : Option R :=
  f18.b' L N k (fun s0 s1 => f18.l0 L N (fun z2 => f18.p0_e0 L N k z2) (fun z7 z8 => f18.p0_r L N k z7 z8) L s0 s1) x0
def f18 (L N : Nat) (x0 : LI) : Option (Bool) := f18.b L N some x0
def f18.ent (L N : Nat) := entRo [(.sl i64)] (.one .bool) fun d => f18 L N d.1
noncomputable def E18 (L N : Nat) : Env := { P := Tryz.prog, ty := tyOf, Φ := (Φ17 L N), inl := inlT, live := lives, liveX := livesX, L := L, dp := none, prom := promT, heal := healT, ren := renT }
noncomputable def f18.c0 : Code := loopAt 0 (codeOf Tryz.f18)
def f18.X0_e0 {R : Type} (κ : KX R) := fun z2 => κ (.exit 0) (f18.T0_e0 z2) (f18.H0_e0 z2)
def f18.X0_r {R : Type} (κ : KX R) := fun z7 z8 => κ .ret (f18.T0_r z7 z8) (f18.H0_r z7 z8)
def f18.R0 {R : Type} (rec : KT R) := fun s0 s1 => rec (f18.T0 s0 s1) (f18.H0 s0 s1)
theorem f18.s0_eq {R : Type} (L N : Nat) (κ : KX R) (rec : KT R) (s0 : LI) (s1 : Int) :
    evRd (E18 L N) (evCallI (E18 L N) 0 1000) 1000 18 26 0 f18.c0 κ rec (f18.T0 s0 s1) (f18.H0 s0 s1)
    = f18.s0 L N (f18.X0_e0 κ) (f18.X0_r κ) (f18.R0 rec) s0 s1 := by kernel_rfl
theorem f18.l0_eq {R : Type} (L N : Nat) (κ : KX R) : ∀ (n : Nat) (s0 : LI) (s1 : Int),
    evLp (E18 L N) (evCallI (E18 L N) 0 1000) 1000 18 26 0 f18.c0 κ n (f18.T0 s0 s1) (f18.H0 s0 s1)
    = f18.l0 L N (f18.X0_e0 κ) (f18.X0_r κ) n s0 s1 := by
  intro n
  induction n with
  | zero => intros; rfl
  | succ n ih =>
    intro s0 s1
    rw [evLp_succ, f18.s0_eq]
    delta f18.R0
    simp only [ih]
    rfl
theorem f18.p0_e0_eq {R : Type} (L N : Nat) (κ : AV → Option R) (z2 : LI) :
    (contAt (E18 L N) (evCallI (E18 L N) 0 1000) 1000 18 26 0 (codeOf Tryz.f18) (finK (E18 L N) 1000 Tryz.f18 (finC (.one .bool) κ))) (.exit 0) (f18.T0_e0 z2) (f18.H0_e0 z2)
    = f18.p0_e0 L N (fun a0 => κ (.tv .bool a0)) z2 := by kernel_rfl
theorem f18.p0_r_eq {R : Type} (L N : Nat) (κ : AV → Option R) (z7 : LI) (z8 : Bool) :
    (contAt (E18 L N) (evCallI (E18 L N) 0 1000) 1000 18 26 0 (codeOf Tryz.f18) (finK (E18 L N) 1000 Tryz.f18 (finC (.one .bool) κ))) .ret (f18.T0_r z7 z8) (f18.H0_r z7 z8)
    = f18.p0_r L N (fun a0 => κ (.tv .bool a0)) z7 z8 := by kernel_rfl
theorem f18.b_eq {R : Type} (L N : Nat) (κ : AV → Option R) (x0 : LI) :
    evBody (E18 L N) (evCallI (E18 L N) 0 1000) 1000 18 Tryz.f18 [(.tv (.sl i64) x0)] [] [] (finC (.one .bool) κ)
    = f18.b L N (fun a0 => κ (.tv .bool a0)) x0 := by
  refine Eq.trans (b := f18.b' L N (fun a0 => κ (.tv .bool a0)) (fun s0 s1 => evLp (E18 L N) (evCallI (E18 L N) 0 1000) 1000 18 26 0 f18.c0 (contAt (E18 L N) (evCallI (E18 L N) 0 1000) 1000 18 26 0 (codeOf Tryz.f18) (finK (E18 L N) 1000 Tryz.f18 (finC (.one .bool) κ))) L (f18.T0 s0 s1) (f18.H0 s0 s1)) x0) (by kernel_rfl) ?_
  unfold f18.b
  simp only [f18.l0_eq]
  delta f18.X0_e0 f18.X0_r
  simp only [f18.p0_e0_eq, f18.p0_r_eq]
theorem f18.ok (L N : Nat) (hΦ : TellsOk Tryz.prog ((Φ17 L N))) : EntOk Tryz.prog 18 (f18.ent L N) := entRo_ok (E := (E18 L N)) (dep := 1000) (f := Tryz.f18) (sound_of hΦ) okP (callI_sound (sound_of hΦ) okP 0 1000) rfl rfl fun d _ hy => (f18.b_eq L N (unR (.one .bool)) d.1).trans (Eq.trans (b := f18.b L N some d.1) (by kernel_rfl) hy)
def Φ18 (L N : Nat) : Tells := (addT (Φ17 L N) 18 (f18.ent L N))
theorem Φ18_ok (L N : Nat) : TellsOk Tryz.prog (Φ18 L N) := addT_ok (Φ17_ok L N) (f18.ok L N (Φ17_ok L N))
def f68.j0' {R : Type} (L N : Nat) (k2_e4 : Bool → Int → LLM → LB → Option R) (rec2 : Bool → Int → Int → LLM → LB → Option R) (v20 : Bool) (v21 : Int) (v22 : Int) (v23 : Bool) (v24 : LLM) (v25 : Int) (v26 : Int) (v27 : LB) : Option R :=
  bif v23 then
    bif (decide (0 ≤ v26) && decide (v26 < (v27.length : Int))) then
      rec2 true v21 (wi (v22 + (1 : Int))) v24 (v27.set v26.toNat true)
    else none
  else rec2 v20 v21 (wi (v22 + (1 : Int))) v24 v27
def f68.s2' {R : Type} (L N : Nat) (k2_e4 : Bool → Int → LLM → LB → Option R) (rec2 : Bool → Int → Int → LLM → LB → Option R) (s11 : Bool) (s12 : Int) (s13 : Int) (s14 : LLM) (s15 : LB) : Option R :=
  bif (decide (0 ≤ s12) && decide (s12 < (s14.length : Int))) then
    bif (decide (s13 < ((listAt s14 [] s12.toNat).length : Int))) then
      bif (decide (0 ≤ s12) && decide (s12 < (s14.length : Int))) then
        bif (decide (0 ≤ s13) && decide (s13 < ((listAt s14 [] s12.toNat).length : Int))) then
          bif (decide (0 ≤ s12) && decide (s12 < (s15.length : Int))) then
            bif (listAt s15 false s12.toNat) then
              bif ((listAt (listAt s14 [] s12.toNat) (Ty.dflt (.st 0)) s13.toNat).act == (0 : Int)) then
                bif (decide (0 ≤ (listAt (listAt s14 [] s12.toNat) (Ty.dflt (.st 0)) s13.toNat).to) && decide ((listAt (listAt s14 [] s12.toNat) (Ty.dflt (.st 0)) s13.toNat).to < (s15.length : Int))) then
                  f68.j0' L N k2_e4 rec2 s11 s12 s13 (!(listAt s15 false ((listAt (listAt s14 [] s12.toNat) (Ty.dflt (.st 0)) s13.toNat).to).toNat)) s14 ((listAt (listAt s14 [] s12.toNat) (Ty.dflt (.st 0)) s13.toNat).act) ((listAt (listAt s14 [] s12.toNat) (Ty.dflt (.st 0)) s13.toNat).to) s15
                else none
              else f68.j0' L N k2_e4 rec2 s11 s12 s13 false s14 ((listAt (listAt s14 [] s12.toNat) (Ty.dflt (.st 0)) s13.toNat).act) ((listAt (listAt s14 [] s12.toNat) (Ty.dflt (.st 0)) s13.toNat).to) s15
            else f68.j0' L N k2_e4 rec2 s11 s12 s13 false s14 ((listAt (listAt s14 [] s12.toNat) (Ty.dflt (.st 0)) s13.toNat).act) ((listAt (listAt s14 [] s12.toNat) (Ty.dflt (.st 0)) s13.toNat).to) s15
          else none
        else none
      else none
    else k2_e4 s11 s12 s14 s15
  else none
def f68.s2 {R : Type} (L N : Nat) (k2_e4 : Bool → Int → LLM → LB → Option R) (rec2 : Bool → Int → Int → LLM → LB → Option R) (s11 : Bool) (s12 : Int) (s13 : Int) (s14 : LLM) (s15 : LB) : Option R :=
  f68.s2' L N k2_e4 rec2 s11 s12 s13 s14 s15
def f68.l2 {R : Type} (L N : Nat) (k2_e4 : Bool → Int → LLM → LB → Option R) : Nat → Bool → Int → Int → LLM → LB → Option R
  | 0, _, _, _, _, _ => none
  | n + 1, s11, s12, s13, s14, s15 => f68.s2 L N k2_e4 (f68.l2 L N k2_e4 n) s11 s12 s13 s14 s15
def f68.T2 (s11 : Bool) (s12 : Int) (s13 : Int) (s14 : LLM) (s15 : LB) : T := mkT 60 [(2, (.ptr 1002 0)), (5, (.row 1010)), (6, (.tv .bool s11)), (7, (.tv i64 s12)), (8, (.tv i64 s13))]
def f68.H2 (s11 : Bool) (s12 : Int) (s13 : Int) (s14 : LLM) (s15 : LB) : H := [(1002, (.box [(.tv (.sl (.sl (.st 0))) s14)])), (1010, (.row 4 .bool s15))]
def f68.T2_e4 (z16 : Bool) (z17 : Int) (z18 : LLM) (z19 : LB) : T := mkT 60 [(2, (.ptr 1002 0)), (5, (.row 1010)), (6, (.tv .bool z16)), (7, (.tv i64 z17))]
def f68.H2_e4 (z16 : Bool) (z17 : Int) (z18 : LLM) (z19 : LB) : H := [(1002, (.box [(.tv (.sl (.sl (.st 0))) z18)])), (1010, (.row 4 .bool z19))]
def f68.p2_e4' {R : Type} (L N : Nat) (k1_e2 : Bool → LLM → LB → Option R) (rec1 : Bool → Int → LLM → LB → Option R) (z16 : Bool) (z17 : Int) (z18 : LLM) (z19 : LB) : Option R :=
  rec1 z16 (wi (z17 + (1 : Int))) z18 z19
def f68.p2_e4 {R : Type} (L N : Nat) (k1_e2 : Bool → LLM → LB → Option R) (rec1 : Bool → Int → LLM → LB → Option R) (z16 : Bool) (z17 : Int) (z18 : LLM) (z19 : LB) : Option R :=
  f68.p2_e4' L N k1_e2 rec1 z16 z17 z18 z19
def f68.s1' {R : Type} (L N : Nat) (k1_e2 : Bool → LLM → LB → Option R) (rec1 : Bool → Int → LLM → LB → Option R) (w2 : Bool → Int → Int → LLM → LB → Option R) (s4 : Bool) (s5 : Int) (s6 : LLM) (s7 : LB) : Option R :=
  bif (decide (s5 < (s7.length : Int))) then
    w2 s4 s5 (0 : Int) s6 s7
  else k1_e2 s4 s6 s7
def f68.s1 {R : Type} (L N : Nat) (k1_e2 : Bool → LLM → LB → Option R) (rec1 : Bool → Int → LLM → LB → Option R) (s4 : Bool) (s5 : Int) (s6 : LLM) (s7 : LB) : Option R :=
  f68.s1' L N k1_e2 rec1 (fun s11 s12 s13 s14 s15 => f68.l2 L N (fun z16 z17 z18 z19 => f68.p2_e4 L N k1_e2 rec1 z16 z17 z18 z19) L s11 s12 s13 s14 s15) s4 s5 s6 s7
def f68.l1 {R : Type} (L N : Nat) (k1_e2 : Bool → LLM → LB → Option R) : Nat → Bool → Int → LLM → LB → Option R
  | 0, _, _, _, _ => none
  | n + 1, s4, s5, s6, s7 => f68.s1 L N k1_e2 (f68.l1 L N k1_e2 n) s4 s5 s6 s7
def f68.T1 (s4 : Bool) (s5 : Int) (s6 : LLM) (s7 : LB) : T := mkT 60 [(2, (.ptr 1002 0)), (5, (.row 1010)), (6, (.tv .bool s4)), (7, (.tv i64 s5))]
def f68.H1 (s4 : Bool) (s5 : Int) (s6 : LLM) (s7 : LB) : H := [(1002, (.box [(.tv (.sl (.sl (.st 0))) s6)])), (1010, (.row 4 .bool s7))]
def f68.T1_e2 (z8 : Bool) (z9 : LLM) (z10 : LB) : T := mkT 60 [(2, (.ptr 1002 0)), (5, (.row 1010)), (6, (.tv .bool z8))]
def f68.H1_e2 (z8 : Bool) (z9 : LLM) (z10 : LB) : H := [(1002, (.box [(.tv (.sl (.sl (.st 0))) z9)])), (1010, (.row 4 .bool z10))]
def f68.p1_e2' {R : Type} (L N : Nat) (k0_e0 : LB → Option R) (rec0 : Bool → LLM → LB → Option R) (z8 : Bool) (z9 : LLM) (z10 : LB) : Option R :=
  rec0 z8 z9 z10
def f68.p1_e2 {R : Type} (L N : Nat) (k0_e0 : LB → Option R) (rec0 : Bool → LLM → LB → Option R) (z8 : Bool) (z9 : LLM) (z10 : LB) : Option R :=
  f68.p1_e2' L N k0_e0 rec0 z8 z9 z10
def f68.s0' {R : Type} (L N : Nat) (k0_e0 : LB → Option R) (rec0 : Bool → LLM → LB → Option R) (w1 : Bool → Int → LLM → LB → Option R) (s0 : Bool) (s1 : LLM) (s2 : LB) : Option R :=
  bif s0 then
    w1 false (0 : Int) s1 s2
  else k0_e0 s2
def f68.s0 {R : Type} (L N : Nat) (k0_e0 : LB → Option R) (rec0 : Bool → LLM → LB → Option R) (s0 : Bool) (s1 : LLM) (s2 : LB) : Option R :=
  f68.s0' L N k0_e0 rec0 (fun s4 s5 s6 s7 => f68.l1 L N (fun z8 z9 z10 => f68.p1_e2 L N k0_e0 rec0 z8 z9 z10) L s4 s5 s6 s7) s0 s1 s2
def f68.l0 {R : Type} (L N : Nat) (k0_e0 : LB → Option R) : Nat → Bool → LLM → LB → Option R
  | 0, _, _, _ => none
  | n + 1, s0, s1, s2 => f68.s0 L N k0_e0 (f68.l0 L N k0_e0 n) s0 s1 s2
def f68.T0 (s0 : Bool) (s1 : LLM) (s2 : LB) : T := mkT 60 [(2, (.ptr 1002 0)), (5, (.row 1010)), (6, (.tv .bool s0))]
def f68.H0 (s0 : Bool) (s1 : LLM) (s2 : LB) : H := [(1002, (.box [(.tv (.sl (.sl (.st 0))) s1)])), (1010, (.row 4 .bool s2))]
def f68.T0_e0 (z3 : LB) : T := mkT 60 [(5, (.row 1010))]
def f68.H0_e0 (z3 : LB) : H := [(1010, (.row 4 .bool z3))]
def f68.p0_e0' {R : Type} (L N : Nat) (k : LB → Option R) (z3 : LB) : Option R :=
  k z3
def f68.p0_e0 {R : Type} (L N : Nat) (k : LB → Option R) (z3 : LB) : Option R :=
  f68.p0_e0' L N k z3
def f68.b' {R : Type} (L N : Nat) (k : LB → Option R) (w0 : Bool → LLM → LB → Option R) (x0 : Graph) (x1 : LB) : Option R :=
  bif (decide (([] : LB).length + x1.length ≤ lim)) then
    w0 true x0.moves (([] : LB) ++ x1)
  else none
def f68.b {R : Type} (L N : Nat) (k : LB → Option R) (x0 : Graph) (x1 : LB) : Option R :=
  f68.b' L N k (fun s0 s1 s2 => f68.l0 L N (fun z3 => f68.p0_e0 L N k z3) L s0 s1 s2) x0 x1
def f68 (L N : Nat) (x0 : Graph) (x1 : LB) : Option (LB) := f68.b L N some x0 x1
def f68.ent (L N : Nat) := entDa [(.st 2), (.sl .bool)] (.one (.sl .bool)) fun d => f68 L N d.1 d.2.1
noncomputable def E68 (L N : Nat) : Env := { P := Tryz.prog, ty := tyOf, Φ := (Φ18 L N), inl := inlT, live := lives, liveX := livesX, L := L, dp := none, prom := promT, heal := healT, ren := renT }
noncomputable def f68.c0 : Code := loopAt 0 (codeOf Tryz.f68)
noncomputable def f68.c1 : Code := loopAt 2 f68.c0
noncomputable def f68.c2 : Code := loopAt 4 f68.c1
def f68.X2_e4 {R : Type} (κ : KX R) := fun z16 z17 z18 z19 => κ (.exit 4) (f68.T2_e4 z16 z17 z18 z19) (f68.H2_e4 z16 z17 z18 z19)
def f68.R2 {R : Type} (rec : KT R) := fun s11 s12 s13 s14 s15 => rec (f68.T2 s11 s12 s13 s14 s15) (f68.H2 s11 s12 s13 s14 s15)
theorem f68.s2_eq {R : Type} (L N : Nat) (κ : KX R) (rec : KT R) (s11 : Bool) (s12 : Int) (s13 : Int) (s14 : LLM) (s15 : LB) :
    evRd (E68 L N) (evCallI (E68 L N) 0 1000) 1000 68 60 4 f68.c2 κ rec (f68.T2 s11 s12 s13 s14 s15) (f68.H2 s11 s12 s13 s14 s15)
    = f68.s2 L N (f68.X2_e4 κ) (f68.R2 rec) s11 s12 s13 s14 s15 := by kernel_rfl
theorem f68.l2_eq {R : Type} (L N : Nat) (κ : KX R) : ∀ (n : Nat) (s11 : Bool) (s12 : Int) (s13 : Int) (s14 : LLM) (s15 : LB),
    evLp (E68 L N) (evCallI (E68 L N) 0 1000) 1000 68 60 4 f68.c2 κ n (f68.T2 s11 s12 s13 s14 s15) (f68.H2 s11 s12 s13 s14 s15)
    = f68.l2 L N (f68.X2_e4 κ) n s11 s12 s13 s14 s15 := by
  intro n
  induction n with
  | zero => intros; rfl
  | succ n ih =>
    intro s11 s12 s13 s14 s15
    rw [evLp_succ, f68.s2_eq]
    delta f68.R2
    simp only [ih]
    rfl
def f68.X1_e2 {R : Type} (κ : KX R) := fun z8 z9 z10 => κ (.exit 2) (f68.T1_e2 z8 z9 z10) (f68.H1_e2 z8 z9 z10)
def f68.R1 {R : Type} (rec : KT R) := fun s4 s5 s6 s7 => rec (f68.T1 s4 s5 s6 s7) (f68.H1 s4 s5 s6 s7)
theorem f68.p2_e4_eq {R : Type} (L N : Nat) (κ : KX R) (rec : KT R) (z16 : Bool) (z17 : Int) (z18 : LLM) (z19 : LB) :
    (contAt (E68 L N) (evCallI (E68 L N) 0 1000) 1000 68 60 4 f68.c1 (rdK (E68 L N) 1000 68 60 2 κ rec)) (.exit 4) (f68.T2_e4 z16 z17 z18 z19) (f68.H2_e4 z16 z17 z18 z19)
    = f68.p2_e4 L N (f68.X1_e2 κ) (f68.R1 rec) z16 z17 z18 z19 := by kernel_rfl
theorem f68.s1_eq {R : Type} (L N : Nat) (κ : KX R) (rec : KT R) (s4 : Bool) (s5 : Int) (s6 : LLM) (s7 : LB) :
    evRd (E68 L N) (evCallI (E68 L N) 0 1000) 1000 68 60 2 f68.c1 κ rec (f68.T1 s4 s5 s6 s7) (f68.H1 s4 s5 s6 s7)
    = f68.s1 L N (f68.X1_e2 κ) (f68.R1 rec) s4 s5 s6 s7 := by
  refine Eq.trans (b := f68.s1' L N (f68.X1_e2 κ) (f68.R1 rec) (fun s11 s12 s13 s14 s15 => evLp (E68 L N) (evCallI (E68 L N) 0 1000) 1000 68 60 4 f68.c2 (contAt (E68 L N) (evCallI (E68 L N) 0 1000) 1000 68 60 4 f68.c1 (rdK (E68 L N) 1000 68 60 2 κ rec)) L (f68.T2 s11 s12 s13 s14 s15) (f68.H2 s11 s12 s13 s14 s15)) s4 s5 s6 s7) (by kernel_rfl) ?_
  unfold f68.s1
  simp only [f68.l2_eq]
  delta f68.X2_e4
  simp only [f68.p2_e4_eq]
theorem f68.l1_eq {R : Type} (L N : Nat) (κ : KX R) : ∀ (n : Nat) (s4 : Bool) (s5 : Int) (s6 : LLM) (s7 : LB),
    evLp (E68 L N) (evCallI (E68 L N) 0 1000) 1000 68 60 2 f68.c1 κ n (f68.T1 s4 s5 s6 s7) (f68.H1 s4 s5 s6 s7)
    = f68.l1 L N (f68.X1_e2 κ) n s4 s5 s6 s7 := by
  intro n
  induction n with
  | zero => intros; rfl
  | succ n ih =>
    intro s4 s5 s6 s7
    rw [evLp_succ, f68.s1_eq]
    delta f68.R1
    simp only [ih]
    rfl
def f68.X0_e0 {R : Type} (κ : KX R) := fun z3 => κ (.exit 0) (f68.T0_e0 z3) (f68.H0_e0 z3)
def f68.R0 {R : Type} (rec : KT R) := fun s0 s1 s2 => rec (f68.T0 s0 s1 s2) (f68.H0 s0 s1 s2)
theorem f68.p1_e2_eq {R : Type} (L N : Nat) (κ : KX R) (rec : KT R) (z8 : Bool) (z9 : LLM) (z10 : LB) :
    (contAt (E68 L N) (evCallI (E68 L N) 0 1000) 1000 68 60 2 f68.c0 (rdK (E68 L N) 1000 68 60 0 κ rec)) (.exit 2) (f68.T1_e2 z8 z9 z10) (f68.H1_e2 z8 z9 z10)
    = f68.p1_e2 L N (f68.X0_e0 κ) (f68.R0 rec) z8 z9 z10 := by kernel_rfl
theorem f68.s0_eq {R : Type} (L N : Nat) (κ : KX R) (rec : KT R) (s0 : Bool) (s1 : LLM) (s2 : LB) :
    evRd (E68 L N) (evCallI (E68 L N) 0 1000) 1000 68 60 0 f68.c0 κ rec (f68.T0 s0 s1 s2) (f68.H0 s0 s1 s2)
    = f68.s0 L N (f68.X0_e0 κ) (f68.R0 rec) s0 s1 s2 := by
  refine Eq.trans (b := f68.s0' L N (f68.X0_e0 κ) (f68.R0 rec) (fun s4 s5 s6 s7 => evLp (E68 L N) (evCallI (E68 L N) 0 1000) 1000 68 60 2 f68.c1 (contAt (E68 L N) (evCallI (E68 L N) 0 1000) 1000 68 60 2 f68.c0 (rdK (E68 L N) 1000 68 60 0 κ rec)) L (f68.T1 s4 s5 s6 s7) (f68.H1 s4 s5 s6 s7)) s0 s1 s2) (by kernel_rfl) ?_
  unfold f68.s0
  simp only [f68.l1_eq]
  delta f68.X1_e2
  simp only [f68.p1_e2_eq]
theorem f68.l0_eq {R : Type} (L N : Nat) (κ : KX R) : ∀ (n : Nat) (s0 : Bool) (s1 : LLM) (s2 : LB),
    evLp (E68 L N) (evCallI (E68 L N) 0 1000) 1000 68 60 0 f68.c0 κ n (f68.T0 s0 s1 s2) (f68.H0 s0 s1 s2)
    = f68.l0 L N (f68.X0_e0 κ) n s0 s1 s2 := by
  intro n
  induction n with
  | zero => intros; rfl
  | succ n ih =>
    intro s0 s1 s2
    rw [evLp_succ, f68.s0_eq]
    delta f68.R0
    simp only [ih]
    rfl
theorem f68.p0_e0_eq {R : Type} (L N : Nat) (κ : AV → Option R) (z3 : LB) :
    (contAt (E68 L N) (evCallI (E68 L N) 0 1000) 1000 68 60 0 (codeOf Tryz.f68) (finK (E68 L N) 1000 Tryz.f68 (finC (.one (.sl .bool)) κ))) (.exit 0) (f68.T0_e0 z3) (f68.H0_e0 z3)
    = f68.p0_e0 L N (fun a0 => κ (.tv (.sl .bool) a0)) z3 := by kernel_rfl
theorem f68.b_eq {R : Type} (L N : Nat) (κ : AV → Option R) (x0 : Graph) (x1 : LB) :
    evBody (E68 L N) (evCallI (E68 L N) 0 1000) 1000 68 Tryz.f68 [(.tv (.st 2) x0), (.tv (.sl .bool) x1)] [] [] (finC (.one (.sl .bool)) κ)
    = f68.b L N (fun a0 => κ (.tv (.sl .bool) a0)) x0 x1 := by
  refine Eq.trans (b := f68.b' L N (fun a0 => κ (.tv (.sl .bool) a0)) (fun s0 s1 s2 => evLp (E68 L N) (evCallI (E68 L N) 0 1000) 1000 68 60 0 f68.c0 (contAt (E68 L N) (evCallI (E68 L N) 0 1000) 1000 68 60 0 (codeOf Tryz.f68) (finK (E68 L N) 1000 Tryz.f68 (finC (.one (.sl .bool)) κ))) L (f68.T0 s0 s1 s2) (f68.H0 s0 s1 s2)) x0 x1) (by kernel_rfl) ?_
  unfold f68.b
  simp only [f68.l0_eq]
  delta f68.X0_e0
  simp only [f68.p0_e0_eq]
theorem f68.ok (L N : Nat) (hΦ : TellsOk Tryz.prog ((Φ18 L N))) : EntOk Tryz.prog 68 (f68.ent L N) := entDa_ok (E := (E68 L N)) (dep := 1000) (f := Tryz.f68) (sound_of hΦ) okP (callI_sound (sound_of hΦ) okP 0 1000) rfl fun d _ hy => (f68.b_eq L N (unR (.one (.sl .bool))) d.1 d.2.1).trans (Eq.trans (b := f68.b L N some d.1 d.2.1) (by kernel_rfl) hy)
def Φ68 (L N : Nat) : Tells := (addT (Φ18 L N) 68 (f68.ent L N))
theorem Φ68_ok (L N : Nat) : TellsOk Tryz.prog (Φ68 L N) := addT_ok (Φ18_ok L N) (f68.ok L N (Φ18_ok L N))
def f43.b' {R : Type} (L N : Nat) (k : LB → Option R) (x0 : Graph) : Option R :=
  bif (decide (0 ≤ (x0.moves.length : Int)) && decide ((x0.moves.length : Int) ≤ (lim : Int))) then
    bif (decide (0 ≤ (0 : Int)) && decide ((0 : Int) < ((List.replicate (x0.moves.length : Int).toNat false).length : Int))) then
      (f68 L N (Graph.mk x0.moves) ((List.replicate (x0.moves.length : Int).toNat false).set ((0 : Int).toNat) true)).bind fun y0 =>
      k y0
    else none
  else none
def f43.b {R : Type} (L N : Nat) (k : LB → Option R) (x0 : Graph) : Option R :=
  f43.b' L N k x0
def f43 (L N : Nat) (x0 : Graph) : Option (LB) := f43.b L N some x0
def f43.ent (L N : Nat) := entDa [(.st 2)] (.one (.sl .bool)) fun d => f43 L N d.1
noncomputable def E43 (L N : Nat) : Env := { P := Tryz.prog, ty := tyOf, Φ := (Φ68 L N), inl := inlT, live := lives, liveX := livesX, L := L, dp := none, prom := promT, heal := healT, ren := renT }
theorem f43.b_eq {R : Type} (L N : Nat) (κ : AV → Option R) (x0 : Graph) :
    evBody (E43 L N) (evCallI (E43 L N) 0 1000) 1000 43 Tryz.f43 [(.tv (.st 2) x0)] [] [] (finC (.one (.sl .bool)) κ)
    = f43.b L N (fun a0 => κ (.tv (.sl .bool) a0)) x0 := by kernel_rfl
theorem f43.ok (L N : Nat) (hΦ : TellsOk Tryz.prog ((Φ68 L N))) : EntOk Tryz.prog 43 (f43.ent L N) := entDa_ok (E := (E43 L N)) (dep := 1000) (f := Tryz.f43) (sound_of hΦ) okP (callI_sound (sound_of hΦ) okP 0 1000) rfl fun d _ hy => (f43.b_eq L N (unR (.one (.sl .bool))) d.1).trans (Eq.trans (b := f43.b L N some d.1) (by kernel_rfl) hy)
def Φ43 (L N : Nat) : Tells := (addT (Φ68 L N) 43 (f43.ent L N))
theorem Φ43_ok (L N : Nat) : TellsOk Tryz.prog (Φ43 L N) := addT_ok (Φ68_ok L N) (f43.ok L N (Φ68_ok L N))
def f44.j0' {R : Type} (L N : Nat) (k1_e2 : LB → Int → Int → LLM → LB → Option R) (rec1 : LB → Int → Int → Int → LLM → LB → Option R) (v18 : LB) (v19 : Int) (v20 : Int) (v21 : Int) (v22 : Bool) (v23 : LLM) (v24 : LB) : Option R :=
  bif v22 then
    bif (decide (0 ≤ v20) && decide (v20 < (v23.length : Int))) then
      bif (decide (0 ≤ v21) && decide (v21 < ((listAt v23 [] v20.toNat).length : Int))) then
        bif (decide (0 ≤ (listAt (listAt v23 [] v20.toNat) (Ty.dflt (.st 0)) v21.toNat).to) && decide ((listAt (listAt v23 [] v20.toNat) (Ty.dflt (.st 0)) v21.toNat).to < (v24.length : Int))) then
          rec1 v18 v19 v20 (wi (v21 + (1 : Int))) v23 (v24.set (((listAt (listAt v23 [] v20.toNat) (Ty.dflt (.st 0)) v21.toNat).to).toNat) true)
        else none
      else none
    else none
  else rec1 v18 v19 v20 (wi (v21 + (1 : Int))) v23 v24
def f44.s1' {R : Type} (L N : Nat) (k1_e2 : LB → Int → Int → LLM → LB → Option R) (rec1 : LB → Int → Int → Int → LLM → LB → Option R) (s7 : LB) (s8 : Int) (s9 : Int) (s10 : Int) (s11 : LLM) (s12 : LB) : Option R :=
  bif (decide (0 ≤ s9) && decide (s9 < (s11.length : Int))) then
    bif (decide (s10 < ((listAt s11 [] s9.toNat).length : Int))) then
      bif (decide (0 ≤ s9) && decide (s9 < (s7.length : Int))) then
        bif (listAt s7 false s9.toNat) then
          bif (decide (0 ≤ s9) && decide (s9 < (s11.length : Int))) then
            bif (decide (0 ≤ s10) && decide (s10 < ((listAt s11 [] s9.toNat).length : Int))) then
              f44.j0' L N k1_e2 rec1 s7 s8 s9 s10 ((listAt (listAt s11 [] s9.toNat) (Ty.dflt (.st 0)) s10.toNat).act == s8) s11 s12
            else none
          else none
        else f44.j0' L N k1_e2 rec1 s7 s8 s9 s10 false s11 s12
      else none
    else k1_e2 s7 s8 s9 s11 s12
  else none
def f44.s1 {R : Type} (L N : Nat) (k1_e2 : LB → Int → Int → LLM → LB → Option R) (rec1 : LB → Int → Int → Int → LLM → LB → Option R) (s7 : LB) (s8 : Int) (s9 : Int) (s10 : Int) (s11 : LLM) (s12 : LB) : Option R :=
  f44.s1' L N k1_e2 rec1 s7 s8 s9 s10 s11 s12
def f44.l1 {R : Type} (L N : Nat) (k1_e2 : LB → Int → Int → LLM → LB → Option R) : Nat → LB → Int → Int → Int → LLM → LB → Option R
  | 0, _, _, _, _, _, _ => none
  | n + 1, s7, s8, s9, s10, s11, s12 => f44.s1 L N k1_e2 (f44.l1 L N k1_e2 n) s7 s8 s9 s10 s11 s12
def f44.T1 (s7 : LB) (s8 : Int) (s9 : Int) (s10 : Int) (s11 : LLM) (s12 : LB) : T := mkT 60 [(1, (.tv (.sl .bool) s7)), (2, (.tv i64 s8)), (3, (.ptr 1003 0)), (7, (.row 1012)), (8, (.tv i64 s9)), (9, (.tv i64 s10))]
def f44.H1 (s7 : LB) (s8 : Int) (s9 : Int) (s10 : Int) (s11 : LLM) (s12 : LB) : H := [(1003, (.box [(.tv (.sl (.sl (.st 0))) s11)])), (1012, (.row 4 .bool s12))]
def f44.T1_e2 (z13 : LB) (z14 : Int) (z15 : Int) (z16 : LLM) (z17 : LB) : T := mkT 60 [(1, (.tv (.sl .bool) z13)), (2, (.tv i64 z14)), (3, (.ptr 1003 0)), (7, (.row 1012)), (8, (.tv i64 z15))]
def f44.H1_e2 (z13 : LB) (z14 : Int) (z15 : Int) (z16 : LLM) (z17 : LB) : H := [(1003, (.box [(.tv (.sl (.sl (.st 0))) z16)])), (1012, (.row 4 .bool z17))]
def f44.p1_e2' {R : Type} (L N : Nat) (k0_e0 : LLM → LB → Option R) (rec0 : LB → Int → Int → LLM → LB → Option R) (z13 : LB) (z14 : Int) (z15 : Int) (z16 : LLM) (z17 : LB) : Option R :=
  rec0 z13 z14 (wi (z15 + (1 : Int))) z16 z17
def f44.p1_e2 {R : Type} (L N : Nat) (k0_e0 : LLM → LB → Option R) (rec0 : LB → Int → Int → LLM → LB → Option R) (z13 : LB) (z14 : Int) (z15 : Int) (z16 : LLM) (z17 : LB) : Option R :=
  f44.p1_e2' L N k0_e0 rec0 z13 z14 z15 z16 z17
def f44.s0' {R : Type} (L N : Nat) (k0_e0 : LLM → LB → Option R) (rec0 : LB → Int → Int → LLM → LB → Option R) (w1 : LB → Int → Int → Int → LLM → LB → Option R) (s0 : LB) (s1 : Int) (s2 : Int) (s3 : LLM) (s4 : LB) : Option R :=
  bif (decide (s2 < (s0.length : Int))) then
    w1 s0 s1 s2 (0 : Int) s3 s4
  else k0_e0 s3 s4
def f44.s0 {R : Type} (L N : Nat) (k0_e0 : LLM → LB → Option R) (rec0 : LB → Int → Int → LLM → LB → Option R) (s0 : LB) (s1 : Int) (s2 : Int) (s3 : LLM) (s4 : LB) : Option R :=
  f44.s0' L N k0_e0 rec0 (fun s7 s8 s9 s10 s11 s12 => f44.l1 L N (fun z13 z14 z15 z16 z17 => f44.p1_e2 L N k0_e0 rec0 z13 z14 z15 z16 z17) L s7 s8 s9 s10 s11 s12) s0 s1 s2 s3 s4
def f44.l0 {R : Type} (L N : Nat) (k0_e0 : LLM → LB → Option R) : Nat → LB → Int → Int → LLM → LB → Option R
  | 0, _, _, _, _, _ => none
  | n + 1, s0, s1, s2, s3, s4 => f44.s0 L N k0_e0 (f44.l0 L N k0_e0 n) s0 s1 s2 s3 s4
def f44.T0 (s0 : LB) (s1 : Int) (s2 : Int) (s3 : LLM) (s4 : LB) : T := mkT 60 [(1, (.tv (.sl .bool) s0)), (2, (.tv i64 s1)), (3, (.ptr 1003 0)), (7, (.row 1012)), (8, (.tv i64 s2))]
def f44.H0 (s0 : LB) (s1 : Int) (s2 : Int) (s3 : LLM) (s4 : LB) : H := [(1003, (.box [(.tv (.sl (.sl (.st 0))) s3)])), (1012, (.row 4 .bool s4))]
def f44.T0_e0 (z5 : LLM) (z6 : LB) : T := mkT 60 [(3, (.ptr 1003 0)), (7, (.row 1012))]
def f44.H0_e0 (z5 : LLM) (z6 : LB) : H := [(1003, (.box [(.tv (.sl (.sl (.st 0))) z5)])), (1012, (.row 4 .bool z6))]
def f44.p0_e0' {R : Type} (L N : Nat) (k : LB → Option R) (z5 : LLM) (z6 : LB) : Option R :=
  (f68 L N (Graph.mk z5) z6).bind fun y31 =>
  k y31
def f44.p0_e0 {R : Type} (L N : Nat) (k : LB → Option R) (z5 : LLM) (z6 : LB) : Option R :=
  f44.p0_e0' L N k z5 z6
def f44.b' {R : Type} (L N : Nat) (k : LB → Option R) (w0 : LB → Int → Int → LLM → LB → Option R) (x0 : Graph) (x1 : LB) (x2 : Int) : Option R :=
  bif (decide (0 ≤ (x1.length : Int)) && decide ((x1.length : Int) ≤ (lim : Int))) then
    w0 x1 x2 (0 : Int) x0.moves (List.replicate (x1.length : Int).toNat false)
  else none
def f44.b {R : Type} (L N : Nat) (k : LB → Option R) (x0 : Graph) (x1 : LB) (x2 : Int) : Option R :=
  f44.b' L N k (fun s0 s1 s2 s3 s4 => f44.l0 L N (fun z5 z6 => f44.p0_e0 L N k z5 z6) L s0 s1 s2 s3 s4) x0 x1 x2
def f44 (L N : Nat) (x0 : Graph) (x1 : LB) (x2 : Int) : Option (LB) := f44.b L N some x0 x1 x2
def f44.ent (L N : Nat) := entDa [(.st 2), (.sl .bool), i64] (.one (.sl .bool)) fun d => f44 L N d.1 d.2.1 d.2.2.1
noncomputable def E44 (L N : Nat) : Env := { P := Tryz.prog, ty := tyOf, Φ := (Φ43 L N), inl := inlT, live := lives, liveX := livesX, L := L, dp := none, prom := promT, heal := healT, ren := renT }
noncomputable def f44.c0 : Code := loopAt 0 (codeOf Tryz.f44)
noncomputable def f44.c1 : Code := loopAt 2 f44.c0
def f44.X1_e2 {R : Type} (κ : KX R) := fun z13 z14 z15 z16 z17 => κ (.exit 2) (f44.T1_e2 z13 z14 z15 z16 z17) (f44.H1_e2 z13 z14 z15 z16 z17)
def f44.R1 {R : Type} (rec : KT R) := fun s7 s8 s9 s10 s11 s12 => rec (f44.T1 s7 s8 s9 s10 s11 s12) (f44.H1 s7 s8 s9 s10 s11 s12)
theorem f44.s1_eq {R : Type} (L N : Nat) (κ : KX R) (rec : KT R) (s7 : LB) (s8 : Int) (s9 : Int) (s10 : Int) (s11 : LLM) (s12 : LB) :
    evRd (E44 L N) (evCallI (E44 L N) 0 1000) 1000 44 60 2 f44.c1 κ rec (f44.T1 s7 s8 s9 s10 s11 s12) (f44.H1 s7 s8 s9 s10 s11 s12)
    = f44.s1 L N (f44.X1_e2 κ) (f44.R1 rec) s7 s8 s9 s10 s11 s12 := by kernel_rfl
theorem f44.l1_eq {R : Type} (L N : Nat) (κ : KX R) : ∀ (n : Nat) (s7 : LB) (s8 : Int) (s9 : Int) (s10 : Int) (s11 : LLM) (s12 : LB),
    evLp (E44 L N) (evCallI (E44 L N) 0 1000) 1000 44 60 2 f44.c1 κ n (f44.T1 s7 s8 s9 s10 s11 s12) (f44.H1 s7 s8 s9 s10 s11 s12)
    = f44.l1 L N (f44.X1_e2 κ) n s7 s8 s9 s10 s11 s12 := by
  intro n
  induction n with
  | zero => intros; rfl
  | succ n ih =>
    intro s7 s8 s9 s10 s11 s12
    rw [evLp_succ, f44.s1_eq]
    delta f44.R1
    simp only [ih]
    rfl
def f44.X0_e0 {R : Type} (κ : KX R) := fun z5 z6 => κ (.exit 0) (f44.T0_e0 z5 z6) (f44.H0_e0 z5 z6)
def f44.R0 {R : Type} (rec : KT R) := fun s0 s1 s2 s3 s4 => rec (f44.T0 s0 s1 s2 s3 s4) (f44.H0 s0 s1 s2 s3 s4)
theorem f44.p1_e2_eq {R : Type} (L N : Nat) (κ : KX R) (rec : KT R) (z13 : LB) (z14 : Int) (z15 : Int) (z16 : LLM) (z17 : LB) :
    (contAt (E44 L N) (evCallI (E44 L N) 0 1000) 1000 44 60 2 f44.c0 (rdK (E44 L N) 1000 44 60 0 κ rec)) (.exit 2) (f44.T1_e2 z13 z14 z15 z16 z17) (f44.H1_e2 z13 z14 z15 z16 z17)
    = f44.p1_e2 L N (f44.X0_e0 κ) (f44.R0 rec) z13 z14 z15 z16 z17 := by kernel_rfl
theorem f44.s0_eq {R : Type} (L N : Nat) (κ : KX R) (rec : KT R) (s0 : LB) (s1 : Int) (s2 : Int) (s3 : LLM) (s4 : LB) :
    evRd (E44 L N) (evCallI (E44 L N) 0 1000) 1000 44 60 0 f44.c0 κ rec (f44.T0 s0 s1 s2 s3 s4) (f44.H0 s0 s1 s2 s3 s4)
    = f44.s0 L N (f44.X0_e0 κ) (f44.R0 rec) s0 s1 s2 s3 s4 := by
  refine Eq.trans (b := f44.s0' L N (f44.X0_e0 κ) (f44.R0 rec) (fun s7 s8 s9 s10 s11 s12 => evLp (E44 L N) (evCallI (E44 L N) 0 1000) 1000 44 60 2 f44.c1 (contAt (E44 L N) (evCallI (E44 L N) 0 1000) 1000 44 60 2 f44.c0 (rdK (E44 L N) 1000 44 60 0 κ rec)) L (f44.T1 s7 s8 s9 s10 s11 s12) (f44.H1 s7 s8 s9 s10 s11 s12)) s0 s1 s2 s3 s4) (by kernel_rfl) ?_
  unfold f44.s0
  simp only [f44.l1_eq]
  delta f44.X1_e2
  simp only [f44.p1_e2_eq]
theorem f44.l0_eq {R : Type} (L N : Nat) (κ : KX R) : ∀ (n : Nat) (s0 : LB) (s1 : Int) (s2 : Int) (s3 : LLM) (s4 : LB),
    evLp (E44 L N) (evCallI (E44 L N) 0 1000) 1000 44 60 0 f44.c0 κ n (f44.T0 s0 s1 s2 s3 s4) (f44.H0 s0 s1 s2 s3 s4)
    = f44.l0 L N (f44.X0_e0 κ) n s0 s1 s2 s3 s4 := by
  intro n
  induction n with
  | zero => intros; rfl
  | succ n ih =>
    intro s0 s1 s2 s3 s4
    rw [evLp_succ, f44.s0_eq]
    delta f44.R0
    simp only [ih]
    rfl
theorem f44.p0_e0_eq {R : Type} (L N : Nat) (κ : AV → Option R) (z5 : LLM) (z6 : LB) :
    (contAt (E44 L N) (evCallI (E44 L N) 0 1000) 1000 44 60 0 (codeOf Tryz.f44) (finK (E44 L N) 1000 Tryz.f44 (finC (.one (.sl .bool)) κ))) (.exit 0) (f44.T0_e0 z5 z6) (f44.H0_e0 z5 z6)
    = f44.p0_e0 L N (fun a0 => κ (.tv (.sl .bool) a0)) z5 z6 := by kernel_rfl
theorem f44.b_eq {R : Type} (L N : Nat) (κ : AV → Option R) (x0 : Graph) (x1 : LB) (x2 : Int) :
    evBody (E44 L N) (evCallI (E44 L N) 0 1000) 1000 44 Tryz.f44 [(.tv (.st 2) x0), (.tv (.sl .bool) x1), (.tv i64 x2)] [] [] (finC (.one (.sl .bool)) κ)
    = f44.b L N (fun a0 => κ (.tv (.sl .bool) a0)) x0 x1 x2 := by
  refine Eq.trans (b := f44.b' L N (fun a0 => κ (.tv (.sl .bool) a0)) (fun s0 s1 s2 s3 s4 => evLp (E44 L N) (evCallI (E44 L N) 0 1000) 1000 44 60 0 f44.c0 (contAt (E44 L N) (evCallI (E44 L N) 0 1000) 1000 44 60 0 (codeOf Tryz.f44) (finK (E44 L N) 1000 Tryz.f44 (finC (.one (.sl .bool)) κ))) L (f44.T0 s0 s1 s2 s3 s4) (f44.H0 s0 s1 s2 s3 s4)) x0 x1 x2) (by kernel_rfl) ?_
  unfold f44.b
  simp only [f44.l0_eq]
  delta f44.X0_e0
  simp only [f44.p0_e0_eq]
theorem f44.ok (L N : Nat) (hΦ : TellsOk Tryz.prog ((Φ43 L N))) : EntOk Tryz.prog 44 (f44.ent L N) := entDa_ok (E := (E44 L N)) (dep := 1000) (f := Tryz.f44) (sound_of hΦ) okP (callI_sound (sound_of hΦ) okP 0 1000) rfl fun d _ hy => (f44.b_eq L N (unR (.one (.sl .bool))) d.1 d.2.1 d.2.2.1).trans (Eq.trans (b := f44.b L N some d.1 d.2.1 d.2.2.1) (by kernel_rfl) hy)
def Φ44 (L N : Nat) : Tells := (addT (Φ43 L N) 44 (f44.ent L N))
theorem Φ44_ok (L N : Nat) : TellsOk Tryz.prog (Φ44 L N) := addT_ok (Φ43_ok L N) (f44.ok L N (Φ43_ok L N))
def f20.s0' {R : Type} (L N : Nat) (k0_e0 : LB → Option R) (rec0 : LI → LB → Int → LLM → Option R) (s1 : LI) (s2 : LB) (s3 : Int) (s4 : LLM) : Option R :=
  bif (decide (s3 < (s1.length : Int))) then
    bif (decide (0 ≤ s3) && decide (s3 < (s1.length : Int))) then
      (f44 L N (Graph.mk s4) s2 (listAt s1 (0 : Int) s3.toNat)).bind fun y6 =>
      rec0 s1 y6 (wi (s3 + (1 : Int))) s4
    else none
  else k0_e0 s2
def f20.s0 {R : Type} (L N : Nat) (k0_e0 : LB → Option R) (rec0 : LI → LB → Int → LLM → Option R) (s1 : LI) (s2 : LB) (s3 : Int) (s4 : LLM) : Option R :=
  f20.s0' L N k0_e0 rec0 s1 s2 s3 s4
def f20.l0 {R : Type} (L N : Nat) (k0_e0 : LB → Option R) : Nat → LI → LB → Int → LLM → Option R
  | 0, _, _, _, _ => none
  | n + 1, s1, s2, s3, s4 => f20.s0 L N k0_e0 (f20.l0 L N k0_e0 n) s1 s2 s3 s4
def f20.T0 (s1 : LI) (s2 : LB) (s3 : Int) (s4 : LLM) : T := mkT 23 [(1, (.tv (.sl i64) s1)), (2, (.ptr 1002 0)), (5, (.tv (.sl .bool) s2)), (6, (.tv i64 s3))]
def f20.H0 (s1 : LI) (s2 : LB) (s3 : Int) (s4 : LLM) : H := [(1002, (.box [(.tv (.sl (.sl (.st 0))) s4)]))]
def f20.T0_e0 (z5 : LB) : T := mkT 23 [(5, (.tv (.sl .bool) z5))]
def f20.H0_e0 (z5 : LB) : H := []
def f20.p0_e0' {R : Type} (L N : Nat) (k : LB → Option R) (z5 : LB) : Option R :=
  k z5
def f20.p0_e0 {R : Type} (L N : Nat) (k : LB → Option R) (z5 : LB) : Option R :=
  f20.p0_e0' L N k z5
def f20.b' {R : Type} (L N : Nat) (k : LB → Option R) (w0 : LI → LB → Int → LLM → Option R) (x0 : Graph) (x1 : LI) : Option R :=
  (f43 L N (Graph.mk x0.moves)).bind fun y0 =>
  w0 x1 y0 (0 : Int) x0.moves
def f20.b {R : Type} (L N : Nat) (k : LB → Option R) (x0 : Graph) (x1 : LI) : Option R :=
  f20.b' L N k (fun s1 s2 s3 s4 => f20.l0 L N (fun z5 => f20.p0_e0 L N k z5) L s1 s2 s3 s4) x0 x1
def f20 (L N : Nat) (x0 : Graph) (x1 : LI) : Option (LB) := f20.b L N some x0 x1
def f20.ent (L N : Nat) := entDa [(.st 2), (.sl i64)] (.one (.sl .bool)) fun d => f20 L N d.1 d.2.1
noncomputable def E20 (L N : Nat) : Env := { P := Tryz.prog, ty := tyOf, Φ := (Φ44 L N), inl := inlT, live := lives, liveX := livesX, L := L, dp := none, prom := promT, heal := healT, ren := renT }
noncomputable def f20.c0 : Code := loopAt 0 (codeOf Tryz.f20)
def f20.X0_e0 {R : Type} (κ : KX R) := fun z5 => κ (.exit 0) (f20.T0_e0 z5) (f20.H0_e0 z5)
def f20.R0 {R : Type} (rec : KT R) := fun s1 s2 s3 s4 => rec (f20.T0 s1 s2 s3 s4) (f20.H0 s1 s2 s3 s4)
theorem f20.s0_eq {R : Type} (L N : Nat) (κ : KX R) (rec : KT R) (s1 : LI) (s2 : LB) (s3 : Int) (s4 : LLM) :
    evRd (E20 L N) (evCallI (E20 L N) 0 1000) 1000 20 23 0 f20.c0 κ rec (f20.T0 s1 s2 s3 s4) (f20.H0 s1 s2 s3 s4)
    = f20.s0 L N (f20.X0_e0 κ) (f20.R0 rec) s1 s2 s3 s4 := by kernel_rfl
theorem f20.l0_eq {R : Type} (L N : Nat) (κ : KX R) : ∀ (n : Nat) (s1 : LI) (s2 : LB) (s3 : Int) (s4 : LLM),
    evLp (E20 L N) (evCallI (E20 L N) 0 1000) 1000 20 23 0 f20.c0 κ n (f20.T0 s1 s2 s3 s4) (f20.H0 s1 s2 s3 s4)
    = f20.l0 L N (f20.X0_e0 κ) n s1 s2 s3 s4 := by
  intro n
  induction n with
  | zero => intros; rfl
  | succ n ih =>
    intro s1 s2 s3 s4
    rw [evLp_succ, f20.s0_eq]
    delta f20.R0
    simp only [ih]
    rfl
theorem f20.p0_e0_eq {R : Type} (L N : Nat) (κ : AV → Option R) (z5 : LB) :
    (contAt (E20 L N) (evCallI (E20 L N) 0 1000) 1000 20 23 0 (codeOf Tryz.f20) (finK (E20 L N) 1000 Tryz.f20 (finC (.one (.sl .bool)) κ))) (.exit 0) (f20.T0_e0 z5) (f20.H0_e0 z5)
    = f20.p0_e0 L N (fun a0 => κ (.tv (.sl .bool) a0)) z5 := by kernel_rfl
theorem f20.b_eq {R : Type} (L N : Nat) (κ : AV → Option R) (x0 : Graph) (x1 : LI) :
    evBody (E20 L N) (evCallI (E20 L N) 0 1000) 1000 20 Tryz.f20 [(.tv (.st 2) x0), (.tv (.sl i64) x1)] [] [] (finC (.one (.sl .bool)) κ)
    = f20.b L N (fun a0 => κ (.tv (.sl .bool) a0)) x0 x1 := by
  refine Eq.trans (b := f20.b' L N (fun a0 => κ (.tv (.sl .bool) a0)) (fun s1 s2 s3 s4 => evLp (E20 L N) (evCallI (E20 L N) 0 1000) 1000 20 23 0 f20.c0 (contAt (E20 L N) (evCallI (E20 L N) 0 1000) 1000 20 23 0 (codeOf Tryz.f20) (finK (E20 L N) 1000 Tryz.f20 (finC (.one (.sl .bool)) κ))) L (f20.T0 s1 s2 s3 s4) (f20.H0 s1 s2 s3 s4)) x0 x1) (by kernel_rfl) ?_
  unfold f20.b
  simp only [f20.l0_eq]
  delta f20.X0_e0
  simp only [f20.p0_e0_eq]
theorem f20.ok (L N : Nat) (hΦ : TellsOk Tryz.prog ((Φ44 L N))) : EntOk Tryz.prog 20 (f20.ent L N) := entDa_ok (E := (E20 L N)) (dep := 1000) (f := Tryz.f20) (sound_of hΦ) okP (callI_sound (sound_of hΦ) okP 0 1000) rfl fun d _ hy => (f20.b_eq L N (unR (.one (.sl .bool))) d.1 d.2.1).trans (Eq.trans (b := f20.b L N some d.1 d.2.1) (by kernel_rfl) hy)
def Φ20 (L N : Nat) : Tells := (addT (Φ44 L N) 20 (f20.ent L N))
theorem Φ20_ok (L N : Nat) : TellsOk Tryz.prog (Φ20 L N) := addT_ok (Φ44_ok L N) (f20.ok L N (Φ44_ok L N))
def f33.b' {R : Type} (L N : Nat) (k : Bool → Option R) (x0 : LB) : Option R :=
  k ((x0.length : Int) == (8 : Int))
def f33.b {R : Type} (L N : Nat) (k : Bool → Option R) (x0 : LB) : Option R :=
  f33.b' L N k x0
def f33 (L N : Nat) (x0 : LB) : Option (Bool) := f33.b L N some x0
def f33.ent (L N : Nat) := entRo [(.sl .bool)] (.one .bool) fun d => f33 L N d.1
noncomputable def E33 (L N : Nat) : Env := { P := Tryz.prog, ty := tyOf, Φ := (Φ20 L N), inl := inlT, live := lives, liveX := livesX, L := L, dp := none, prom := promT, heal := healT, ren := renT }
theorem f33.b_eq {R : Type} (L N : Nat) (κ : AV → Option R) (x0 : LB) :
    evBody (E33 L N) (evCallI (E33 L N) 0 1000) 1000 33 Tryz.f33 [(.tv (.sl .bool) x0)] [] [] (finC (.one .bool) κ)
    = f33.b L N (fun a0 => κ (.tv .bool a0)) x0 := by kernel_rfl
theorem f33.ok (L N : Nat) (hΦ : TellsOk Tryz.prog ((Φ20 L N))) : EntOk Tryz.prog 33 (f33.ent L N) := entRo_ok (E := (E33 L N)) (dep := 1000) (f := Tryz.f33) (sound_of hΦ) okP (callI_sound (sound_of hΦ) okP 0 1000) rfl rfl fun d _ hy => (f33.b_eq L N (unR (.one .bool)) d.1).trans (Eq.trans (b := f33.b L N some d.1) (by kernel_rfl) hy)
def Φ33 (L N : Nat) : Tells := (addT (Φ20 L N) 33 (f33.ent L N))
theorem Φ33_ok (L N : Nat) : TellsOk Tryz.prog (Φ33 L N) := addT_ok (Φ20_ok L N) (f33.ok L N (Φ20_ok L N))
def f100.b' {R : Type} (L N : Nat) (k : Int → Option R) (x0 : Int) : Option R :=
  bif (decide (x0 > (0 : Int))) then
    k (wi ((wi ((4 : Int) + x0)) - (1 : Int)))
  else k (wi ((wi (0 - x0)) - (1 : Int)))
def f100.b {R : Type} (L N : Nat) (k : Int → Option R) (x0 : Int) : Option R :=
  f100.b' L N k x0
def f100 (L N : Nat) (x0 : Int) : Option (Int) := f100.b L N some x0
def f100.ent (L N : Nat) := entRo [i64] (.one i64) fun d => f100 L N d.1
noncomputable def E100 (L N : Nat) : Env := { P := Tryz.prog, ty := tyOf, Φ := (Φ33 L N), inl := inlT, live := lives, liveX := livesX, L := L, dp := none, prom := promT, heal := healT, ren := renT }
theorem f100.b_eq {R : Type} (L N : Nat) (κ : AV → Option R) (x0 : Int) :
    evBody (E100 L N) (evCallI (E100 L N) 0 1000) 1000 100 Tryz.f100 [(.tv i64 x0)] [] [] (finC (.one i64) κ)
    = f100.b L N (fun a0 => κ (.tv i64 a0)) x0 := by kernel_rfl
theorem f100.ok (L N : Nat) (hΦ : TellsOk Tryz.prog ((Φ33 L N))) : EntOk Tryz.prog 100 (f100.ent L N) := entRo_ok (E := (E100 L N)) (dep := 1000) (f := Tryz.f100) (sound_of hΦ) okP (callI_sound (sound_of hΦ) okP 0 1000) rfl rfl fun d _ hy => (f100.b_eq L N (unR (.one i64)) d.1).trans (Eq.trans (b := f100.b L N some d.1) (by kernel_rfl) hy)
def Φ100 (L N : Nat) : Tells := (addT (Φ33 L N) 100 (f100.ent L N))
theorem Φ100_ok (L N : Nat) : TellsOk Tryz.prog (Φ100 L N) := addT_ok (Φ33_ok L N) (f100.ok L N (Φ33_ok L N))
def f78.s0' {R : Type} (L N : Nat) (k0_e0 : Bool → LB → Option R) (rec0 : Int → Bool → Int → LLM → LB → Option R) (s0 : Int) (s1 : Bool) (s2 : Int) (s3 : LLM) (s4 : LB) : Option R :=
  bif (decide (0 ≤ s0) && decide (s0 < (s3.length : Int))) then
    bif (decide (s2 < ((listAt s3 [] s0.toNat).length : Int))) then
      bif (decide (0 ≤ s0) && decide (s0 < (s3.length : Int))) then
        bif (decide (0 ≤ s2) && decide (s2 < ((listAt s3 [] s0.toNat).length : Int))) then
          bif ((listAt (listAt s3 [] s0.toNat) (Ty.dflt (.st 0)) s2.toNat).act == (0 : Int)) then
            rec0 s0 false (wi (s2 + (1 : Int))) s3 s4
          else (f100 L N ((listAt (listAt s3 [] s0.toNat) (Ty.dflt (.st 0)) s2.toNat).act)).bind fun y7 =>
          bif (decide (0 ≤ y7) && decide (y7 < (s4.length : Int))) then
            rec0 s0 s1 (wi (s2 + (1 : Int))) s3 (s4.set y7.toNat true)
          else none
        else none
      else none
    else k0_e0 s1 s4
  else none
def f78.s0 {R : Type} (L N : Nat) (k0_e0 : Bool → LB → Option R) (rec0 : Int → Bool → Int → LLM → LB → Option R) (s0 : Int) (s1 : Bool) (s2 : Int) (s3 : LLM) (s4 : LB) : Option R :=
  f78.s0' L N k0_e0 rec0 s0 s1 s2 s3 s4
def f78.l0 {R : Type} (L N : Nat) (k0_e0 : Bool → LB → Option R) : Nat → Int → Bool → Int → LLM → LB → Option R
  | 0, _, _, _, _, _ => none
  | n + 1, s0, s1, s2, s3, s4 => f78.s0 L N k0_e0 (f78.l0 L N k0_e0 n) s0 s1 s2 s3 s4
def f78.T0 (s0 : Int) (s1 : Bool) (s2 : Int) (s3 : LLM) (s4 : LB) : T := mkT 38 [(1, (.tv i64 s0)), (2, (.ptr 1002 0)), (6, (.row 1010)), (7, (.tv .bool s1)), (8, (.tv i64 s2))]
def f78.H0 (s0 : Int) (s1 : Bool) (s2 : Int) (s3 : LLM) (s4 : LB) : H := [(1002, (.box [(.tv (.sl (.sl (.st 0))) s3)])), (1010, (.row 4 .bool s4))]
def f78.T0_e0 (z5 : Bool) (z6 : LB) : T := mkT 38 [(6, (.row 1010)), (7, (.tv .bool z5))]
def f78.H0_e0 (z5 : Bool) (z6 : LB) : H := [(1010, (.row 4 .bool z6))]
def f78.p0_e0' {R : Type} (L N : Nat) (k : LB → Bool → Option R) (z5 : Bool) (z6 : LB) : Option R :=
  k z6 z5
def f78.p0_e0 {R : Type} (L N : Nat) (k : LB → Bool → Option R) (z5 : Bool) (z6 : LB) : Option R :=
  f78.p0_e0' L N k z5 z6
def f78.b' {R : Type} (L N : Nat) (k : LB → Bool → Option R) (w0 : Int → Bool → Int → LLM → LB → Option R) (x0 : Graph) (x1 : Int) : Option R :=
  bif (decide (0 ≤ (8 : Int)) && decide ((8 : Int) ≤ (lim : Int))) then
    w0 x1 true (0 : Int) x0.moves (List.replicate (8 : Int).toNat false)
  else none
def f78.b {R : Type} (L N : Nat) (k : LB → Bool → Option R) (x0 : Graph) (x1 : Int) : Option R :=
  f78.b' L N k (fun s0 s1 s2 s3 s4 => f78.l0 L N (fun z5 z6 => f78.p0_e0 L N k z5 z6) L s0 s1 s2 s3 s4) x0 x1
def f78 (L N : Nat) (x0 : Graph) (x1 : Int) : Option (LB × Bool) := f78.b L N (fun a0 a1 => some (a0, a1)) x0 x1
def f78.ent (L N : Nat) := entDa [(.st 2), i64] (.many [(.sl .bool), .bool]) fun d => f78 L N d.1 d.2.1
noncomputable def E78 (L N : Nat) : Env := { P := Tryz.prog, ty := tyOf, Φ := (Φ100 L N), inl := inlT, live := lives, liveX := livesX, L := L, dp := none, prom := promT, heal := healT, ren := renT }
noncomputable def f78.c0 : Code := loopAt 0 (codeOf Tryz.f78)
def f78.X0_e0 {R : Type} (κ : KX R) := fun z5 z6 => κ (.exit 0) (f78.T0_e0 z5 z6) (f78.H0_e0 z5 z6)
def f78.R0 {R : Type} (rec : KT R) := fun s0 s1 s2 s3 s4 => rec (f78.T0 s0 s1 s2 s3 s4) (f78.H0 s0 s1 s2 s3 s4)
theorem f78.s0_eq {R : Type} (L N : Nat) (κ : KX R) (rec : KT R) (s0 : Int) (s1 : Bool) (s2 : Int) (s3 : LLM) (s4 : LB) :
    evRd (E78 L N) (evCallI (E78 L N) 0 1000) 1000 78 38 0 f78.c0 κ rec (f78.T0 s0 s1 s2 s3 s4) (f78.H0 s0 s1 s2 s3 s4)
    = f78.s0 L N (f78.X0_e0 κ) (f78.R0 rec) s0 s1 s2 s3 s4 := by kernel_rfl
theorem f78.l0_eq {R : Type} (L N : Nat) (κ : KX R) : ∀ (n : Nat) (s0 : Int) (s1 : Bool) (s2 : Int) (s3 : LLM) (s4 : LB),
    evLp (E78 L N) (evCallI (E78 L N) 0 1000) 1000 78 38 0 f78.c0 κ n (f78.T0 s0 s1 s2 s3 s4) (f78.H0 s0 s1 s2 s3 s4)
    = f78.l0 L N (f78.X0_e0 κ) n s0 s1 s2 s3 s4 := by
  intro n
  induction n with
  | zero => intros; rfl
  | succ n ih =>
    intro s0 s1 s2 s3 s4
    rw [evLp_succ, f78.s0_eq]
    delta f78.R0
    simp only [ih]
    rfl
theorem f78.p0_e0_eq {R : Type} (L N : Nat) (κ : AV → Option R) (z5 : Bool) (z6 : LB) :
    (contAt (E78 L N) (evCallI (E78 L N) 0 1000) 1000 78 38 0 (codeOf Tryz.f78) (finK (E78 L N) 1000 Tryz.f78 (finC (.many [(.sl .bool), .bool]) κ))) (.exit 0) (f78.T0_e0 z5 z6) (f78.H0_e0 z5 z6)
    = f78.p0_e0 L N (fun a0 a1 => κ (.tup [(.tv (.sl .bool) a0), (.tv .bool a1)])) z5 z6 := by kernel_rfl
theorem f78.b_eq {R : Type} (L N : Nat) (κ : AV → Option R) (x0 : Graph) (x1 : Int) :
    evBody (E78 L N) (evCallI (E78 L N) 0 1000) 1000 78 Tryz.f78 [(.tv (.st 2) x0), (.tv i64 x1)] [] [] (finC (.many [(.sl .bool), .bool]) κ)
    = f78.b L N (fun a0 a1 => κ (.tup [(.tv (.sl .bool) a0), (.tv .bool a1)])) x0 x1 := by
  refine Eq.trans (b := f78.b' L N (fun a0 a1 => κ (.tup [(.tv (.sl .bool) a0), (.tv .bool a1)])) (fun s0 s1 s2 s3 s4 => evLp (E78 L N) (evCallI (E78 L N) 0 1000) 1000 78 38 0 f78.c0 (contAt (E78 L N) (evCallI (E78 L N) 0 1000) 1000 78 38 0 (codeOf Tryz.f78) (finK (E78 L N) 1000 Tryz.f78 (finC (.many [(.sl .bool), .bool]) κ))) L (f78.T0 s0 s1 s2 s3 s4) (f78.H0 s0 s1 s2 s3 s4)) x0 x1) (by kernel_rfl) ?_
  unfold f78.b
  simp only [f78.l0_eq]
  delta f78.X0_e0
  simp only [f78.p0_e0_eq]
theorem f78.ok (L N : Nat) (hΦ : TellsOk Tryz.prog ((Φ100 L N))) : EntOk Tryz.prog 78 (f78.ent L N) := entDa_ok (E := (E78 L N)) (dep := 1000) (f := Tryz.f78) (sound_of hΦ) okP (callI_sound (sound_of hΦ) okP 0 1000) rfl fun d _ hy => (f78.b_eq L N (unR (.many [(.sl .bool), .bool])) d.1 d.2.1).trans (Eq.trans (b := f78.b L N (fun a0 a1 => some (a0, a1)) d.1 d.2.1) (by kernel_rfl) hy)
def Φ78 (L N : Nat) : Tells := (addT (Φ100 L N) 78 (f78.ent L N))
theorem Φ78_ok (L N : Nat) : TellsOk Tryz.prog (Φ78 L N) := addT_ok (Φ100_ok L N) (f78.ok L N (Φ100_ok L N))
def f61.s0' {R : Type} (L N : Nat) (k0_e0 : Bool → Option R) (k0_r : Bool → Bool → Option R) (rec0 : LB → LB → Bool → Int → Option R) (s1 : LB) (s2 : LB) (s3 : Bool) (s4 : Int) : Option R :=
  bif (decide (s4 < (s1.length : Int))) then
    bif (decide (0 ≤ s4) && decide (s4 < (s1.length : Int))) then
      bif (listAt s1 false s4.toNat) then
        bif (decide (0 ≤ s4) && decide (s4 < (s2.length : Int))) then
          bif (listAt s2 false s4.toNat) then
            k0_r false s3
          else rec0 s1 s2 s3 (wi (s4 + (1 : Int)))
        else none
      else rec0 s1 s2 s3 (wi (s4 + (1 : Int)))
    else none
  else k0_e0 s3
def f61.s0 {R : Type} (L N : Nat) (k0_e0 : Bool → Option R) (k0_r : Bool → Bool → Option R) (rec0 : LB → LB → Bool → Int → Option R) (s1 : LB) (s2 : LB) (s3 : Bool) (s4 : Int) : Option R :=
  f61.s0' L N k0_e0 k0_r rec0 s1 s2 s3 s4
def f61.l0 {R : Type} (L N : Nat) (k0_e0 : Bool → Option R) (k0_r : Bool → Bool → Option R) : Nat → LB → LB → Bool → Int → Option R
  | 0, _, _, _, _ => none
  | n + 1, s1, s2, s3, s4 => f61.s0 L N k0_e0 k0_r (f61.l0 L N k0_e0 k0_r n) s1 s2 s3 s4
def f61.T0 (s1 : LB) (s2 : LB) (s3 : Bool) (s4 : Int) : T := mkT 33 [(2, (.tv (.sl .bool) s1)), (7, (.tv (.sl .bool) s2)), (8, (.tv .bool s3)), (9, (.tv i64 s4))]
def f61.H0 (s1 : LB) (s2 : LB) (s3 : Bool) (s4 : Int) : H := []
def f61.T0_e0 (z5 : Bool) : T := mkT 33 [(8, (.tv .bool z5))]
def f61.H0_e0 (z5 : Bool) : H := []
def f61.T0_r (z11 : Bool) (z12 : Bool) : T := mkT 33 [(6, (.tv .bool z11)), (8, (.tv .bool z12))]
def f61.H0_r (z11 : Bool) (z12 : Bool) : H := []
def f61.p0_e0' {R : Type} (L N : Nat) (k : Bool → Option R) (z5 : Bool) : Option R :=
  k z5
def f61.p0_e0 {R : Type} (L N : Nat) (k : Bool → Option R) (z5 : Bool) : Option R :=
  f61.p0_e0' L N k z5
def f61.p0_r' {R : Type} (L N : Nat) (k : Bool → Option R) (z11 : Bool) (z12 : Bool) : Option R :=
  k z11
def f61.p0_r {R : Type} (L N : Nat) (k : Bool → Option R) (z11 : Bool) (z12 : Bool) : Option R :=
  f61.p0_r' L N k z11 z12
def f61.b' {R : Type} (L N : Nat) (k : Bool → Option R) (w0 : LB → LB → Bool → Int → Option R) (x0 : Graph) (x1 : Int) (x2 : LB) : Option R :=
  (f78 L N (Graph.mk x0.moves) x1).bind fun y0 =>
  w0 x2 y0.1 y0.2 (0 : Int)
def f61.b {R : Type} (L N : Nat) (k : Bool → Option R) (x0 : Graph) (x1 : Int) (x2 : LB) : Option R :=
  f61.b' L N k (fun s1 s2 s3 s4 => f61.l0 L N (fun z5 => f61.p0_e0 L N k z5) (fun z11 z12 => f61.p0_r L N k z11 z12) L s1 s2 s3 s4) x0 x1 x2
def f61 (L N : Nat) (x0 : Graph) (x1 : Int) (x2 : LB) : Option (Bool) := f61.b L N some x0 x1 x2
def f61.ent (L N : Nat) := entRo [(.st 2), i64, (.sl .bool)] (.one .bool) fun d => f61 L N d.1 d.2.1 d.2.2.1
noncomputable def E61 (L N : Nat) : Env := { P := Tryz.prog, ty := tyOf, Φ := (Φ78 L N), inl := inlT, live := lives, liveX := livesX, L := L, dp := none, prom := promT, heal := healT, ren := renT }
noncomputable def f61.c0 : Code := loopAt 0 (codeOf Tryz.f61)
def f61.X0_e0 {R : Type} (κ : KX R) := fun z5 => κ (.exit 0) (f61.T0_e0 z5) (f61.H0_e0 z5)
def f61.X0_r {R : Type} (κ : KX R) := fun z11 z12 => κ .ret (f61.T0_r z11 z12) (f61.H0_r z11 z12)
def f61.R0 {R : Type} (rec : KT R) := fun s1 s2 s3 s4 => rec (f61.T0 s1 s2 s3 s4) (f61.H0 s1 s2 s3 s4)
theorem f61.s0_eq {R : Type} (L N : Nat) (κ : KX R) (rec : KT R) (s1 : LB) (s2 : LB) (s3 : Bool) (s4 : Int) :
    evRd (E61 L N) (evCallI (E61 L N) 0 1000) 1000 61 33 0 f61.c0 κ rec (f61.T0 s1 s2 s3 s4) (f61.H0 s1 s2 s3 s4)
    = f61.s0 L N (f61.X0_e0 κ) (f61.X0_r κ) (f61.R0 rec) s1 s2 s3 s4 := by kernel_rfl
theorem f61.l0_eq {R : Type} (L N : Nat) (κ : KX R) : ∀ (n : Nat) (s1 : LB) (s2 : LB) (s3 : Bool) (s4 : Int),
    evLp (E61 L N) (evCallI (E61 L N) 0 1000) 1000 61 33 0 f61.c0 κ n (f61.T0 s1 s2 s3 s4) (f61.H0 s1 s2 s3 s4)
    = f61.l0 L N (f61.X0_e0 κ) (f61.X0_r κ) n s1 s2 s3 s4 := by
  intro n
  induction n with
  | zero => intros; rfl
  | succ n ih =>
    intro s1 s2 s3 s4
    rw [evLp_succ, f61.s0_eq]
    delta f61.R0
    simp only [ih]
    rfl
theorem f61.p0_e0_eq {R : Type} (L N : Nat) (κ : AV → Option R) (z5 : Bool) :
    (contAt (E61 L N) (evCallI (E61 L N) 0 1000) 1000 61 33 0 (codeOf Tryz.f61) (finK (E61 L N) 1000 Tryz.f61 (finC (.one .bool) κ))) (.exit 0) (f61.T0_e0 z5) (f61.H0_e0 z5)
    = f61.p0_e0 L N (fun a0 => κ (.tv .bool a0)) z5 := by kernel_rfl
theorem f61.p0_r_eq {R : Type} (L N : Nat) (κ : AV → Option R) (z11 : Bool) (z12 : Bool) :
    (contAt (E61 L N) (evCallI (E61 L N) 0 1000) 1000 61 33 0 (codeOf Tryz.f61) (finK (E61 L N) 1000 Tryz.f61 (finC (.one .bool) κ))) .ret (f61.T0_r z11 z12) (f61.H0_r z11 z12)
    = f61.p0_r L N (fun a0 => κ (.tv .bool a0)) z11 z12 := by kernel_rfl
theorem f61.b_eq {R : Type} (L N : Nat) (κ : AV → Option R) (x0 : Graph) (x1 : Int) (x2 : LB) :
    evBody (E61 L N) (evCallI (E61 L N) 0 1000) 1000 61 Tryz.f61 [(.tv (.st 2) x0), (.tv i64 x1), (.tv (.sl .bool) x2)] [] [] (finC (.one .bool) κ)
    = f61.b L N (fun a0 => κ (.tv .bool a0)) x0 x1 x2 := by
  refine Eq.trans (b := f61.b' L N (fun a0 => κ (.tv .bool a0)) (fun s1 s2 s3 s4 => evLp (E61 L N) (evCallI (E61 L N) 0 1000) 1000 61 33 0 f61.c0 (contAt (E61 L N) (evCallI (E61 L N) 0 1000) 1000 61 33 0 (codeOf Tryz.f61) (finK (E61 L N) 1000 Tryz.f61 (finC (.one .bool) κ))) L (f61.T0 s1 s2 s3 s4) (f61.H0 s1 s2 s3 s4)) x0 x1 x2) (by kernel_rfl) ?_
  unfold f61.b
  simp only [f61.l0_eq]
  delta f61.X0_e0 f61.X0_r
  simp only [f61.p0_e0_eq, f61.p0_r_eq]
theorem f61.ok (L N : Nat) (hΦ : TellsOk Tryz.prog ((Φ78 L N))) : EntOk Tryz.prog 61 (f61.ent L N) := entRo_ok (E := (E61 L N)) (dep := 1000) (f := Tryz.f61) (sound_of hΦ) okP (callI_sound (sound_of hΦ) okP 0 1000) rfl rfl fun d _ hy => (f61.b_eq L N (unR (.one .bool)) d.1 d.2.1 d.2.2.1).trans (Eq.trans (b := f61.b L N some d.1 d.2.1 d.2.2.1) (by kernel_rfl) hy)
def Φ61 (L N : Nat) : Tells := (addT (Φ78 L N) 61 (f61.ent L N))
theorem Φ61_ok (L N : Nat) : TellsOk Tryz.prog (Φ61 L N) := addT_ok (Φ78_ok L N) (f61.ok L N (Φ78_ok L N))
def f34.s0' {R : Type} (L N : Nat) (k0_e0 : Option R) (k0_r : Bool → Option R) (rec0 : LB → LB → Int → LLM → Option R) (s0 : LB) (s1 : LB) (s2 : Int) (s3 : LLM) : Option R :=
  bif (decide (s2 < (s0.length : Int))) then
    bif (decide (0 ≤ s2) && decide (s2 < (s0.length : Int))) then
      bif (listAt s0 false s2.toNat) then
        (f61 L N (Graph.mk s3) s2 s1).bind fun y4 =>
        bif y4 then
          k0_r true
        else rec0 s0 s1 (wi (s2 + (1 : Int))) s3
      else rec0 s0 s1 (wi (s2 + (1 : Int))) s3
    else none
  else k0_e0
def f34.s0 {R : Type} (L N : Nat) (k0_e0 : Option R) (k0_r : Bool → Option R) (rec0 : LB → LB → Int → LLM → Option R) (s0 : LB) (s1 : LB) (s2 : Int) (s3 : LLM) : Option R :=
  f34.s0' L N k0_e0 k0_r rec0 s0 s1 s2 s3
def f34.l0 {R : Type} (L N : Nat) (k0_e0 : Option R) (k0_r : Bool → Option R) : Nat → LB → LB → Int → LLM → Option R
  | 0, _, _, _, _ => none
  | n + 1, s0, s1, s2, s3 => f34.s0 L N k0_e0 k0_r (f34.l0 L N k0_e0 k0_r n) s0 s1 s2 s3
def f34.T0 (s0 : LB) (s1 : LB) (s2 : Int) (s3 : LLM) : T := mkT 24 [(1, (.tv (.sl .bool) s0)), (2, (.tv (.sl .bool) s1)), (3, (.ptr 1003 0)), (7, (.tv i64 s2))]
def f34.H0 (s0 : LB) (s1 : LB) (s2 : Int) (s3 : LLM) : H := [(1003, (.box [(.tv (.sl (.sl (.st 0))) s3)]))]
def f34.T0_e0 : T := mkT 24 []
def f34.H0_e0 : H := []
def f34.T0_r (z10 : Bool) : T := mkT 24 [(6, (.tv .bool z10))]
def f34.H0_r (z10 : Bool) : H := []
def f34.p0_e0' {R : Type} (L N : Nat) (k : Bool → Option R) : Option R :=
  k false
def f34.p0_e0 {R : Type} (L N : Nat) (k : Bool → Option R) : Option R :=
  f34.p0_e0' L N k
def f34.p0_r' {R : Type} (L N : Nat) (k : Bool → Option R) (z10 : Bool) : Option R :=
  k z10
def f34.p0_r {R : Type} (L N : Nat) (k : Bool → Option R) (z10 : Bool) : Option R :=
  f34.p0_r' L N k z10
def f34.b' {R : Type} (L N : Nat) (k : Bool → Option R) (w0 : LB → LB → Int → LLM → Option R) (x0 : Graph) (x1 : LB) (x2 : LB) : Option R :=
  w0 x1 x2 (0 : Int) x0.moves
def f34.b {R : Type} (L N : Nat) (k : Bool → Option R) (x0 : Graph) (x1 : LB) (x2 : LB) : Option R :=
  f34.b' L N k (fun s0 s1 s2 s3 => f34.l0 L N (f34.p0_e0 L N k) (fun z10 => f34.p0_r L N k z10) L s0 s1 s2 s3) x0 x1 x2
def f34 (L N : Nat) (x0 : Graph) (x1 : LB) (x2 : LB) : Option (Bool) := f34.b L N some x0 x1 x2
def f34.ent (L N : Nat) := entRo [(.st 2), (.sl .bool), (.sl .bool)] (.one .bool) fun d => f34 L N d.1 d.2.1 d.2.2.1
noncomputable def E34 (L N : Nat) : Env := { P := Tryz.prog, ty := tyOf, Φ := (Φ61 L N), inl := inlT, live := lives, liveX := livesX, L := L, dp := none, prom := promT, heal := healT, ren := renT }
noncomputable def f34.c0 : Code := loopAt 0 (codeOf Tryz.f34)
def f34.X0_e0 {R : Type} (κ : KX R) := κ (.exit 0) f34.T0_e0 f34.H0_e0
def f34.X0_r {R : Type} (κ : KX R) := fun z10 => κ .ret (f34.T0_r z10) (f34.H0_r z10)
def f34.R0 {R : Type} (rec : KT R) := fun s0 s1 s2 s3 => rec (f34.T0 s0 s1 s2 s3) (f34.H0 s0 s1 s2 s3)
theorem f34.s0_eq {R : Type} (L N : Nat) (κ : KX R) (rec : KT R) (s0 : LB) (s1 : LB) (s2 : Int) (s3 : LLM) :
    evRd (E34 L N) (evCallI (E34 L N) 0 1000) 1000 34 24 0 f34.c0 κ rec (f34.T0 s0 s1 s2 s3) (f34.H0 s0 s1 s2 s3)
    = f34.s0 L N (f34.X0_e0 κ) (f34.X0_r κ) (f34.R0 rec) s0 s1 s2 s3 := by kernel_rfl
theorem f34.l0_eq {R : Type} (L N : Nat) (κ : KX R) : ∀ (n : Nat) (s0 : LB) (s1 : LB) (s2 : Int) (s3 : LLM),
    evLp (E34 L N) (evCallI (E34 L N) 0 1000) 1000 34 24 0 f34.c0 κ n (f34.T0 s0 s1 s2 s3) (f34.H0 s0 s1 s2 s3)
    = f34.l0 L N (f34.X0_e0 κ) (f34.X0_r κ) n s0 s1 s2 s3 := by
  intro n
  induction n with
  | zero => intros; rfl
  | succ n ih =>
    intro s0 s1 s2 s3
    rw [evLp_succ, f34.s0_eq]
    delta f34.R0
    simp only [ih]
    rfl
theorem f34.p0_e0_eq {R : Type} (L N : Nat) (κ : AV → Option R) :
    (contAt (E34 L N) (evCallI (E34 L N) 0 1000) 1000 34 24 0 (codeOf Tryz.f34) (finK (E34 L N) 1000 Tryz.f34 (finC (.one .bool) κ))) (.exit 0) f34.T0_e0 f34.H0_e0
    = f34.p0_e0 L N (fun a0 => κ (.tv .bool a0)) := by kernel_rfl
theorem f34.p0_r_eq {R : Type} (L N : Nat) (κ : AV → Option R) (z10 : Bool) :
    (contAt (E34 L N) (evCallI (E34 L N) 0 1000) 1000 34 24 0 (codeOf Tryz.f34) (finK (E34 L N) 1000 Tryz.f34 (finC (.one .bool) κ))) .ret (f34.T0_r z10) (f34.H0_r z10)
    = f34.p0_r L N (fun a0 => κ (.tv .bool a0)) z10 := by kernel_rfl
theorem f34.b_eq {R : Type} (L N : Nat) (κ : AV → Option R) (x0 : Graph) (x1 : LB) (x2 : LB) :
    evBody (E34 L N) (evCallI (E34 L N) 0 1000) 1000 34 Tryz.f34 [(.tv (.st 2) x0), (.tv (.sl .bool) x1), (.tv (.sl .bool) x2)] [] [] (finC (.one .bool) κ)
    = f34.b L N (fun a0 => κ (.tv .bool a0)) x0 x1 x2 := by
  refine Eq.trans (b := f34.b' L N (fun a0 => κ (.tv .bool a0)) (fun s0 s1 s2 s3 => evLp (E34 L N) (evCallI (E34 L N) 0 1000) 1000 34 24 0 f34.c0 (contAt (E34 L N) (evCallI (E34 L N) 0 1000) 1000 34 24 0 (codeOf Tryz.f34) (finK (E34 L N) 1000 Tryz.f34 (finC (.one .bool) κ))) L (f34.T0 s0 s1 s2 s3) (f34.H0 s0 s1 s2 s3)) x0 x1 x2) (by kernel_rfl) ?_
  unfold f34.b
  simp only [f34.l0_eq]
  delta f34.X0_e0 f34.X0_r
  simp only [f34.p0_e0_eq, f34.p0_r_eq]
theorem f34.ok (L N : Nat) (hΦ : TellsOk Tryz.prog ((Φ61 L N))) : EntOk Tryz.prog 34 (f34.ent L N) := entRo_ok (E := (E34 L N)) (dep := 1000) (f := Tryz.f34) (sound_of hΦ) okP (callI_sound (sound_of hΦ) okP 0 1000) rfl rfl fun d _ hy => (f34.b_eq L N (unR (.one .bool)) d.1 d.2.1 d.2.2.1).trans (Eq.trans (b := f34.b L N some d.1 d.2.1 d.2.2.1) (by kernel_rfl) hy)
def Φ34 (L N : Nat) : Tells := (addT (Φ61 L N) 34 (f34.ent L N))
theorem Φ34_ok (L N : Nat) : TellsOk Tryz.prog (Φ34 L N) := addT_ok (Φ61_ok L N) (f34.ok L N (Φ61_ok L N))
def f12.b' {R : Type} (L N : Nat) (k : Bool → Option R) (x0 : Graph) (x1 : LI) (x2 : LB) : Option R :=
  (f17 L N (Graph.mk x0.moves)).bind fun y0 =>
  bif y0 then
    (f18 L N x1).bind fun y1 =>
    bif y1 then
      (f33 L N x2).bind fun y2 =>
      bif y2 then
        (f20 L N (Graph.mk x0.moves) x1).bind fun y3 =>
        (f34 L N (Graph.mk x0.moves) y3 x2).bind fun y4 =>
        k y4
      else k false
    else k false
  else k false
def f12.b {R : Type} (L N : Nat) (k : Bool → Option R) (x0 : Graph) (x1 : LI) (x2 : LB) : Option R :=
  f12.b' L N k x0 x1 x2
def f12 (L N : Nat) (x0 : Graph) (x1 : LI) (x2 : LB) : Option (Bool) := f12.b L N some x0 x1 x2
def f12.ent (L N : Nat) := entRo [(.st 2), (.sl i64), (.sl .bool)] (.one .bool) fun d => f12 L N d.1 d.2.1 d.2.2.1
noncomputable def E12 (L N : Nat) : Env := { P := Tryz.prog, ty := tyOf, Φ := (Φ34 L N), inl := inlT, live := lives, liveX := livesX, L := L, dp := none, prom := promT, heal := healT, ren := renT }
theorem f12.b_eq {R : Type} (L N : Nat) (κ : AV → Option R) (x0 : Graph) (x1 : LI) (x2 : LB) :
    evBody (E12 L N) (evCallI (E12 L N) 0 1000) 1000 12 Tryz.f12 [(.tv (.st 2) x0), (.tv (.sl i64) x1), (.tv (.sl .bool) x2)] [] [] (finC (.one .bool) κ)
    = f12.b L N (fun a0 => κ (.tv .bool a0)) x0 x1 x2 := by kernel_rfl
theorem f12.ok (L N : Nat) (hΦ : TellsOk Tryz.prog ((Φ34 L N))) : EntOk Tryz.prog 12 (f12.ent L N) := entRo_ok (E := (E12 L N)) (dep := 1000) (f := Tryz.f12) (sound_of hΦ) okP (callI_sound (sound_of hΦ) okP 0 1000) rfl rfl fun d _ hy => (f12.b_eq L N (unR (.one .bool)) d.1 d.2.1 d.2.2.1).trans (Eq.trans (b := f12.b L N some d.1 d.2.1 d.2.2.1) (by kernel_rfl) hy)
def Φ12 (L N : Nat) : Tells := (addT (Φ34 L N) 12 (f12.ent L N))
theorem Φ12_ok (L N : Nat) : TellsOk Tryz.prog (Φ12 L N) := addT_ok (Φ34_ok L N) (f12.ok L N (Φ34_ok L N))
def f4.b' {R : Type} (L N : Nat) (k : Bool → Option R) (x0 : LI) : Option R :=
  bif (decide ((x0.length : Int) > (1048576 : Int))) then
    k true
  else (f10 L N x0).bind fun y0 =>
  (f11 L N (Graph.mk y0.1.moves) y0.2.1 y0.2.2).bind fun y1 =>
  (f12 L N (Graph.mk y0.1.moves) y0.2.1 y0.2.2).bind fun y2 =>
  bif (!(y1 == y2)) then
    k false
  else (f9 L N (Graph.mk y0.1.moves)).bind fun y3 =>
  bif (!y1) then
    bif (!y3.2) then
      k true
    else (f11 L N (Graph.mk y3.1.moves) y0.2.1 y0.2.2).bind fun y4 =>
    k (y4 == y1)
  else (f6 L N (Graph.mk y0.1.moves) y0.2.1).bind fun y5 =>
  bif y5 then
    bif (decide (0 ≤ (8 : Int)) && decide ((8 : Int) ≤ (lim : Int))) then
      (f11 L N (Graph.mk y0.1.moves) y0.2.1 (List.replicate (8 : Int).toNat false)).bind fun y6 =>
      bif y6 then
        bif (!y3.2) then
          k true
        else (f11 L N (Graph.mk y3.1.moves) y0.2.1 y0.2.2).bind fun y7 =>
        k (y7 == y1)
      else k false
    else none
  else k false
def f4.b {R : Type} (L N : Nat) (k : Bool → Option R) (x0 : LI) : Option R :=
  f4.b' L N k x0
def f4 (L N : Nat) (x0 : LI) : Option (Bool) := f4.b L N some x0
def f4.ent (L N : Nat) := entRo [(.sl (.int .u8))] (.one .bool) fun d => f4 L N d.1
noncomputable def E4 (L N : Nat) : Env := { P := Tryz.prog, ty := tyOf, Φ := (Φ12 L N), inl := inlT, live := lives, liveX := livesX, L := L, dp := none, prom := promT, heal := healT, ren := renT }
theorem f4.b_eq {R : Type} (L N : Nat) (κ : AV → Option R) (x0 : LI) :
    evBody (E4 L N) (evCallI (E4 L N) 0 1000) 1000 4 Tryz.f4 [(.tv (.sl (.int .u8)) x0)] [] [] (finC (.one .bool) κ)
    = f4.b L N (fun a0 => κ (.tv .bool a0)) x0 := by kernel_rfl
theorem f4.ok (L N : Nat) (hΦ : TellsOk Tryz.prog ((Φ12 L N))) : EntOk Tryz.prog 4 (f4.ent L N) := entRo_ok (E := (E4 L N)) (dep := 1000) (f := Tryz.f4) (sound_of hΦ) okP (callI_sound (sound_of hΦ) okP 0 1000) rfl rfl fun d _ hy => (f4.b_eq L N (unR (.one .bool)) d.1).trans (Eq.trans (b := f4.b L N some d.1) (by kernel_rfl) hy)
def Φ4 (L N : Nat) : Tells := (addT (Φ12 L N) 4 (f4.ent L N))
theorem Φ4_ok (L N : Nat) : TellsOk Tryz.prog (Φ4 L N) := addT_ok (Φ12_ok L N) (f4.ok L N (Φ12_ok L N))
end Go.Proofs.YtffkhhblppfbfaaGreat.Ev
