/- The seat's functions as plain functions, continued: made by program (wip/gen/gen.py). -/
import Derived.Test.YtffkhhblppfbfaaGreatDoorGS4a
namespace Go.Proofs.YtffkhhblppfbfaaGreatDoor.Ev
open Go
set_option linter.unusedVariables false
set_option maxRecDepth 20000
def f142.s1' {R : Type} (L N : Nat) (self142 : Tree → LT → Option (LS)) (k1_e3 : LS → LS → LS → Option R) (rec1 : Int → Int → Int → LT → LS → LS → LS → Option R) (s17 : Int) (s18 : Int) (s19 : Int) (s20 : LT) (s21 : LS) (s22 : LS) (s23 : LS) : Option R :=
  bif (decide (s17 < (s23.length : Int))) then
    bif (decide (0 ≤ s17) && decide (s17 < (s23.length : Int))) then
      bif (decide (0 ≤ (0 : Int)) && decide ((0 : Int) < (s20.length : Int))) then
        bif (decide (0 ≤ s17) && decide (s17 < (s23.length : Int))) then
          bif (decide (s21.length + ([(Step.mk ((listAt s23 (Ty.dflt (.st 3)) s17.toNat).act) (Tree.mk (3 : Int) (0 : Int) ([(listAt s20 (Ty.dflt (.st 1)) (0 : Int).toNat), (Tree.mk ((listAt s23 (Ty.dflt (.st 3)) s17.toNat).thn.op) ((listAt s23 (Ty.dflt (.st 3)) s17.toNat).thn.n) ((listAt s23 (Ty.dflt (.st 3)) s17.toNat).thn.parts))] : LT)))] : LS).length ≤ lim)) then
            rec1 (wi (s17 + (1 : Int))) s18 s19 s20 (s21 ++ ([(Step.mk ((listAt s23 (Ty.dflt (.st 3)) s17.toNat).act) (Tree.mk (3 : Int) (0 : Int) ([(listAt s20 (Ty.dflt (.st 1)) (0 : Int).toNat), (Tree.mk ((listAt s23 (Ty.dflt (.st 3)) s17.toNat).thn.op) ((listAt s23 (Ty.dflt (.st 3)) s17.toNat).thn.n) ((listAt s23 (Ty.dflt (.st 3)) s17.toNat).thn.parts))] : LT)))] : LS)) s22 s23
          else none
        else none
      else none
    else none
  else k1_e3 s21 s22 s23
def f142.s1 {R : Type} (L N : Nat) (self142 : Tree → LT → Option (LS)) (k1_e3 : LS → LS → LS → Option R) (rec1 : Int → Int → Int → LT → LS → LS → LS → Option R) (s17 : Int) (s18 : Int) (s19 : Int) (s20 : LT) (s21 : LS) (s22 : LS) (s23 : LS) : Option R :=
  f142.s1' L N self142 k1_e3 rec1 s17 s18 s19 s20 s21 s22 s23
def f142.l1 {R : Type} (L N : Nat) (self142 : Tree → LT → Option (LS)) (k1_e3 : LS → LS → LS → Option R) : Nat → Int → Int → Int → LT → LS → LS → LS → Option R
  | 0, _, _, _, _, _, _, _ => none
  | n + 1, s17, s18, s19, s20, s21, s22, s23 => f142.s1 L N self142 k1_e3 (f142.l1 L N self142 k1_e3 n) s17 s18 s19 s20 s21 s22 s23
def f142.T1 (s17 : Int) (s18 : Int) (s19 : Int) (s20 : LT) (s21 : LS) (s22 : LS) (s23 : LS) : T := mkT 217 [(2, (.ptr 1002 0)), (5, (.row 1014)), (6, (.row 1051)), (7, (.row 1057)), (9, (.tv i64 s17))]
def f142.H1 (s17 : Int) (s18 : Int) (s19 : Int) (s20 : LT) (s21 : LS) (s22 : LS) (s23 : LS) : H := [(1002, (.box [(.tv i64 s18), (.tv i64 s19), (.tv (.sl (.st 1)) s20)])), (1014, (.row 156 (.st 3) s21)), (1051, (.row 156 (.st 3) s22)), (1057, (.row 156 (.st 3) s23))]
def f142.T1_e3 (z24 : LS) (z25 : LS) (z26 : LS) : T := mkT 217 [(5, (.row 1014)), (6, (.row 1051)), (7, (.row 1057))]
def f142.H1_e3 (z24 : LS) (z25 : LS) (z26 : LS) : H := [(1014, (.row 156 (.st 3) z24)), (1051, (.row 156 (.st 3) z25)), (1057, (.row 156 (.st 3) z26))]
def f142.j0' {R : Type} (L N : Nat) (self142 : Tree → LT → Option (LS)) (k3_e7 : Int → LS → LS → LS → Option R) (rec3 : Int → Int → LS → LS → LS → Option R) (v41 : Int) (v42 : Int) (v43 : Bool) (v44 : LS) (v45 : LS) (v46 : LS) : Option R :=
  bif v43 then
    bif (decide (0 ≤ v41) && decide (v41 < (v45.length : Int))) then
      bif (decide (0 ≤ v42) && decide (v42 < (v46.length : Int))) then
        bif (decide (v44.length + ([(Step.mk (0 : Int) (Tree.mk (3 : Int) (0 : Int) ([(Tree.mk ((listAt v45 (Ty.dflt (.st 3)) v41.toNat).thn.op) ((listAt v45 (Ty.dflt (.st 3)) v41.toNat).thn.n) ((listAt v45 (Ty.dflt (.st 3)) v41.toNat).thn.parts)), (Tree.mk ((listAt v46 (Ty.dflt (.st 3)) v42.toNat).thn.op) ((listAt v46 (Ty.dflt (.st 3)) v42.toNat).thn.n) ((listAt v46 (Ty.dflt (.st 3)) v42.toNat).thn.parts))] : LT)))] : LS).length ≤ lim)) then
          rec3 v41 (wi (v42 + (1 : Int))) (v44 ++ ([(Step.mk (0 : Int) (Tree.mk (3 : Int) (0 : Int) ([(Tree.mk ((listAt v45 (Ty.dflt (.st 3)) v41.toNat).thn.op) ((listAt v45 (Ty.dflt (.st 3)) v41.toNat).thn.n) ((listAt v45 (Ty.dflt (.st 3)) v41.toNat).thn.parts)), (Tree.mk ((listAt v46 (Ty.dflt (.st 3)) v42.toNat).thn.op) ((listAt v46 (Ty.dflt (.st 3)) v42.toNat).thn.n) ((listAt v46 (Ty.dflt (.st 3)) v42.toNat).thn.parts))] : LT)))] : LS)) v45 v46
        else none
      else none
    else none
  else rec3 v41 (wi (v42 + (1 : Int))) v44 v45 v46
def f142.s3' {R : Type} (L N : Nat) (self142 : Tree → LT → Option (LS)) (k3_e7 : Int → LS → LS → LS → Option R) (rec3 : Int → Int → LS → LS → LS → Option R) (s32 : Int) (s33 : Int) (s34 : LS) (s35 : LS) (s36 : LS) : Option R :=
  bif (decide (s33 < (s36.length : Int))) then
    bif (decide (0 ≤ s32) && decide (s32 < (s35.length : Int))) then
      bif ((listAt s35 (Ty.dflt (.st 3)) s32.toNat).act != (0 : Int)) then
        bif (decide (0 ≤ s32) && decide (s32 < (s35.length : Int))) then
          bif (decide (0 ≤ s33) && decide (s33 < (s36.length : Int))) then
            f142.j0' L N self142 k3_e7 rec3 s32 s33 ((listAt s35 (Ty.dflt (.st 3)) s32.toNat).act == (wi (0 - (listAt s36 (Ty.dflt (.st 3)) s33.toNat).act))) s34 s35 s36
          else none
        else none
      else f142.j0' L N self142 k3_e7 rec3 s32 s33 false s34 s35 s36
    else none
  else k3_e7 s32 s34 s35 s36
def f142.s3 {R : Type} (L N : Nat) (self142 : Tree → LT → Option (LS)) (k3_e7 : Int → LS → LS → LS → Option R) (rec3 : Int → Int → LS → LS → LS → Option R) (s32 : Int) (s33 : Int) (s34 : LS) (s35 : LS) (s36 : LS) : Option R :=
  f142.s3' L N self142 k3_e7 rec3 s32 s33 s34 s35 s36
def f142.l3 {R : Type} (L N : Nat) (self142 : Tree → LT → Option (LS)) (k3_e7 : Int → LS → LS → LS → Option R) : Nat → Int → Int → LS → LS → LS → Option R
  | 0, _, _, _, _, _ => none
  | n + 1, s32, s33, s34, s35, s36 => f142.s3 L N self142 k3_e7 (f142.l3 L N self142 k3_e7 n) s32 s33 s34 s35 s36
def f142.T3 (s32 : Int) (s33 : Int) (s34 : LS) (s35 : LS) (s36 : LS) : T := mkT 217 [(5, (.row 1014)), (6, (.row 1051)), (7, (.row 1057)), (10, (.tv i64 s32)), (11, (.tv i64 s33))]
def f142.H3 (s32 : Int) (s33 : Int) (s34 : LS) (s35 : LS) (s36 : LS) : H := [(1014, (.row 156 (.st 3) s34)), (1051, (.row 156 (.st 3) s35)), (1057, (.row 156 (.st 3) s36))]
def f142.T3_e7 (z37 : Int) (z38 : LS) (z39 : LS) (z40 : LS) : T := mkT 217 [(5, (.row 1014)), (6, (.row 1051)), (7, (.row 1057)), (10, (.tv i64 z37))]
def f142.H3_e7 (z37 : Int) (z38 : LS) (z39 : LS) (z40 : LS) : H := [(1014, (.row 156 (.st 3) z38)), (1051, (.row 156 (.st 3) z39)), (1057, (.row 156 (.st 3) z40))]
def f142.p3_e7' {R : Type} (L N : Nat) (self142 : Tree → LT → Option (LS)) (k2_e5 : LS → Option R) (rec2 : Int → LS → LS → LS → Option R) (z37 : Int) (z38 : LS) (z39 : LS) (z40 : LS) : Option R :=
  rec2 (wi (z37 + (1 : Int))) z38 z39 z40
def f142.p3_e7 {R : Type} (L N : Nat) (self142 : Tree → LT → Option (LS)) (k2_e5 : LS → Option R) (rec2 : Int → LS → LS → LS → Option R) (z37 : Int) (z38 : LS) (z39 : LS) (z40 : LS) : Option R :=
  f142.p3_e7' L N self142 k2_e5 rec2 z37 z38 z39 z40
def f142.s2' {R : Type} (L N : Nat) (self142 : Tree → LT → Option (LS)) (k2_e5 : LS → Option R) (rec2 : Int → LS → LS → LS → Option R) (w3 : Int → Int → LS → LS → LS → Option R) (s27 : Int) (s28 : LS) (s29 : LS) (s30 : LS) : Option R :=
  bif (decide (s27 < (s29.length : Int))) then
    w3 s27 (0 : Int) s28 s29 s30
  else k2_e5 s28
def f142.s2 {R : Type} (L N : Nat) (self142 : Tree → LT → Option (LS)) (k2_e5 : LS → Option R) (rec2 : Int → LS → LS → LS → Option R) (s27 : Int) (s28 : LS) (s29 : LS) (s30 : LS) : Option R :=
  f142.s2' L N self142 k2_e5 rec2 (fun s32 s33 s34 s35 s36 => f142.l3 L N self142 (fun z37 z38 z39 z40 => f142.p3_e7 L N self142 k2_e5 rec2 z37 z38 z39 z40) L s32 s33 s34 s35 s36) s27 s28 s29 s30
def f142.l2 {R : Type} (L N : Nat) (self142 : Tree → LT → Option (LS)) (k2_e5 : LS → Option R) : Nat → Int → LS → LS → LS → Option R
  | 0, _, _, _, _ => none
  | n + 1, s27, s28, s29, s30 => f142.s2 L N self142 k2_e5 (f142.l2 L N self142 k2_e5 n) s27 s28 s29 s30
def f142.T2 (s27 : Int) (s28 : LS) (s29 : LS) (s30 : LS) : T := mkT 217 [(5, (.row 1014)), (6, (.row 1051)), (7, (.row 1057)), (10, (.tv i64 s27))]
def f142.H2 (s27 : Int) (s28 : LS) (s29 : LS) (s30 : LS) : H := [(1014, (.row 156 (.st 3) s28)), (1051, (.row 156 (.st 3) s29)), (1057, (.row 156 (.st 3) s30))]
def f142.T2_e5 (z31 : LS) : T := mkT 217 [(5, (.row 1014))]
def f142.H2_e5 (z31 : LS) : H := [(1014, (.row 156 (.st 3) z31))]
def f142.p2_e5' {R : Type} (L N : Nat) (self142 : Tree → LT → Option (LS)) (k : LS → Option R) (z31 : LS) : Option R :=
  k z31
def f142.p2_e5 {R : Type} (L N : Nat) (self142 : Tree → LT → Option (LS)) (k : LS → Option R) (z31 : LS) : Option R :=
  f142.p2_e5' L N self142 k z31
def f142.p1_e3' {R : Type} (L N : Nat) (self142 : Tree → LT → Option (LS)) (k : LS → Option R) (w2 : Int → LS → LS → LS → Option R) (z24 : LS) (z25 : LS) (z26 : LS) : Option R :=
  w2 (0 : Int) z24 z25 z26
def f142.p1_e3 {R : Type} (L N : Nat) (self142 : Tree → LT → Option (LS)) (k : LS → Option R) (z24 : LS) (z25 : LS) (z26 : LS) : Option R :=
  f142.p1_e3' L N self142 k (fun s27 s28 s29 s30 => f142.l2 L N self142 (fun z31 => f142.p2_e5 L N self142 k z31) L s27 s28 s29 s30) z24 z25 z26
def f142.p0_e1' {R : Type} (L N : Nat) (self142 : Tree → LT → Option (LS)) (k : LS → Option R) (w1 : Int → Int → Int → LT → LS → LS → LS → Option R) (z11 : Int) (z12 : Int) (z13 : LT) (z14 : LS) (z15 : LS) (z16 : LS) : Option R :=
  w1 (0 : Int) z11 z12 z13 z14 z15 z16
def f142.p0_e1 {R : Type} (L N : Nat) (self142 : Tree → LT → Option (LS)) (k : LS → Option R) (z11 : Int) (z12 : Int) (z13 : LT) (z14 : LS) (z15 : LS) (z16 : LS) : Option R :=
  f142.p0_e1' L N self142 k (fun s17 s18 s19 s20 s21 s22 s23 => f142.l1 L N self142 (fun z24 z25 z26 => f142.p1_e3 L N self142 k z24 z25 z26) L s17 s18 s19 s20 s21 s22 s23) z11 z12 z13 z14 z15 z16
def f142.j1' {R : Type} (L N : Nat) (self142 : Tree → LT → Option (LS)) (k4_e9 : LS → Option R) (rec4 : Int → Int → Int → LT → LS → LS → Option R) (v61 : Int) (v62 : Bool) (v63 : Int) (v64 : Int) (v65 : LT) (v66 : LS) (v67 : LS) : Option R :=
  bif v62 then
    bif (decide (0 ≤ v61) && decide (v61 < (v67.length : Int))) then
      bif (decide (0 ≤ v61) && decide (v61 < (v67.length : Int))) then
        bif (decide (v66.length + ([(Step.mk ((listAt v67 (Ty.dflt (.st 3)) v61.toNat).act) (Tree.mk (4 : Int) v64 ([(Tree.mk ((listAt v67 (Ty.dflt (.st 3)) v61.toNat).thn.op) ((listAt v67 (Ty.dflt (.st 3)) v61.toNat).thn.n) ((listAt v67 (Ty.dflt (.st 3)) v61.toNat).thn.parts))] : LT)))] : LS).length ≤ lim)) then
          rec4 (wi (v61 + (1 : Int))) v63 v64 v65 (v66 ++ ([(Step.mk ((listAt v67 (Ty.dflt (.st 3)) v61.toNat).act) (Tree.mk (4 : Int) v64 ([(Tree.mk ((listAt v67 (Ty.dflt (.st 3)) v61.toNat).thn.op) ((listAt v67 (Ty.dflt (.st 3)) v61.toNat).thn.n) ((listAt v67 (Ty.dflt (.st 3)) v61.toNat).thn.parts))] : LT)))] : LS)) v67
        else none
      else none
    else none
  else rec4 (wi (v61 + (1 : Int))) v63 v64 v65 v66 v67
def f142.s4' {R : Type} (L N : Nat) (self142 : Tree → LT → Option (LS)) (k4_e9 : LS → Option R) (rec4 : Int → Int → Int → LT → LS → LS → Option R) (s53 : Int) (s54 : Int) (s55 : Int) (s56 : LT) (s57 : LS) (s58 : LS) : Option R :=
  bif (decide (s53 < (s58.length : Int))) then
    bif (decide (0 ≤ s53) && decide (s53 < (s58.length : Int))) then
      bif ((listAt s58 (Ty.dflt (.st 3)) s53.toNat).act == (0 : Int)) then
        f142.j1' L N self142 k4_e9 rec4 s53 true s54 s55 s56 s57 s58
      else bif (decide (0 ≤ s53) && decide (s53 < (s58.length : Int))) then
        (f163 L N ((listAt s58 (Ty.dflt (.st 3)) s53.toNat).act)).bind fun y60 =>
        f142.j1' L N self142 k4_e9 rec4 s53 (y60 != s55) s54 s55 s56 s57 s58
      else none
    else none
  else k4_e9 s57
def f142.s4 {R : Type} (L N : Nat) (self142 : Tree → LT → Option (LS)) (k4_e9 : LS → Option R) (rec4 : Int → Int → Int → LT → LS → LS → Option R) (s53 : Int) (s54 : Int) (s55 : Int) (s56 : LT) (s57 : LS) (s58 : LS) : Option R :=
  f142.s4' L N self142 k4_e9 rec4 s53 s54 s55 s56 s57 s58
def f142.l4 {R : Type} (L N : Nat) (self142 : Tree → LT → Option (LS)) (k4_e9 : LS → Option R) : Nat → Int → Int → Int → LT → LS → LS → Option R
  | 0, _, _, _, _, _, _ => none
  | n + 1, s53, s54, s55, s56, s57, s58 => f142.s4 L N self142 k4_e9 (f142.l4 L N self142 k4_e9 n) s53 s54 s55 s56 s57 s58
def f142.T4 (s53 : Int) (s54 : Int) (s55 : Int) (s56 : LT) (s57 : LS) (s58 : LS) : T := mkT 217 [(2, (.ptr 1002 0)), (5, (.row 1014)), (12, (.row 1165)), (13, (.tv i64 s53))]
def f142.H4 (s53 : Int) (s54 : Int) (s55 : Int) (s56 : LT) (s57 : LS) (s58 : LS) : H := [(1002, (.box [(.tv i64 s54), (.tv i64 s55), (.tv (.sl (.st 1)) s56)])), (1014, (.row 156 (.st 3) s57)), (1165, (.row 156 (.st 3) s58))]
def f142.T4_e9 (z59 : LS) : T := mkT 217 [(5, (.row 1014))]
def f142.H4_e9 (z59 : LS) : H := [(1014, (.row 156 (.st 3) z59))]
def f142.p4_e9' {R : Type} (L N : Nat) (self142 : Tree → LT → Option (LS)) (k : LS → Option R) (z59 : LS) : Option R :=
  k z59
def f142.p4_e9 {R : Type} (L N : Nat) (self142 : Tree → LT → Option (LS)) (k : LS → Option R) (z59 : LS) : Option R :=
  f142.p4_e9' L N self142 k z59
def f142.b' {R : Type} (L N : Nat) (self142 : Tree → LT → Option (LS)) (k : LS → Option R) (w0 : Int → Int → Int → LT → LS → LS → LS → Option R) (w4 : Int → Int → Int → LT → LS → LS → Option R) (x0 : Tree) (x1 : LT) : Option R :=
  bif (x0.op == (1 : Int)) then
    bif (decide (0 ≤ (0 : Int)) && decide ((0 : Int) < (x0.parts.length : Int))) then
      bif (decide (([] : LS).length + ([(Step.mk x0.n (Tree.mk ((listAt x0.parts (Ty.dflt (.st 1)) (0 : Int).toNat).op) ((listAt x0.parts (Ty.dflt (.st 1)) (0 : Int).toNat).n) ((listAt x0.parts (Ty.dflt (.st 1)) (0 : Int).toNat).parts)))] : LS).length ≤ lim)) then
        k (([] : LS) ++ ([(Step.mk x0.n (Tree.mk ((listAt x0.parts (Ty.dflt (.st 1)) (0 : Int).toNat).op) ((listAt x0.parts (Ty.dflt (.st 1)) (0 : Int).toNat).n) ((listAt x0.parts (Ty.dflt (.st 1)) (0 : Int).toNat).parts)))] : LS))
      else none
    else none
  else bif (x0.op == (2 : Int)) then
    bif (decide (0 ≤ (0 : Int)) && decide ((0 : Int) < (x0.parts.length : Int))) then
      (self142 (listAt x0.parts (Ty.dflt (.st 1)) (0 : Int).toNat) x1).bind fun y0 =>
      bif (decide (0 ≤ (1 : Int)) && decide ((1 : Int) < (x0.parts.length : Int))) then
        (self142 (listAt x0.parts (Ty.dflt (.st 1)) (1 : Int).toNat) x1).bind fun y1 =>
        bif (decide (y0.length + y1.length ≤ lim)) then
          k (y0 ++ y1)
        else none
      else none
    else none
  else bif (x0.op == (3 : Int)) then
    bif (decide (0 ≤ (0 : Int)) && decide ((0 : Int) < (x0.parts.length : Int))) then
      (self142 (listAt x0.parts (Ty.dflt (.st 1)) (0 : Int).toNat) x1).bind fun y2 =>
      bif (decide (0 ≤ (1 : Int)) && decide ((1 : Int) < (x0.parts.length : Int))) then
        (self142 (listAt x0.parts (Ty.dflt (.st 1)) (1 : Int).toNat) x1).bind fun y3 =>
        w0 (0 : Int) x0.op x0.n x0.parts ([] : LS) y2 y3
      else none
    else none
  else bif (x0.op == (4 : Int)) then
    bif (decide (0 ≤ (0 : Int)) && decide ((0 : Int) < (x0.parts.length : Int))) then
      (self142 (listAt x0.parts (Ty.dflt (.st 1)) (0 : Int).toNat) x1).bind fun y52 =>
      w4 (0 : Int) x0.op x0.n x0.parts ([] : LS) y52
    else none
  else bif (x0.op == (5 : Int)) then
    bif (decide (0 ≤ x0.n) && decide (x0.n < (x1.length : Int))) then
      (self142 (listAt x1 (Ty.dflt (.st 1)) x0.n.toNat) x1).bind fun y74 =>
      k y74
    else none
  else k ([] : LS)
def f142.b {R : Type} (L N : Nat) (self142 : Tree → LT → Option (LS)) (k : LS → Option R) (x0 : Tree) (x1 : LT) : Option R :=
  f142.b' L N self142 k (fun s4 s5 s6 s7 s8 s9 s10 => f142.l0 L N self142 (fun z11 z12 z13 z14 z15 z16 => f142.p0_e1 L N self142 k z11 z12 z13 z14 z15 z16) L s4 s5 s6 s7 s8 s9 s10) (fun s53 s54 s55 s56 s57 s58 => f142.l4 L N self142 (fun z59 => f142.p4_e9 L N self142 k z59) L s53 s54 s55 s56 s57 s58) x0 x1
def f142 (L N : Nat) : Nat → Tree → LT → Option (LS)
  | 0, _, _ => none
  | n + 1, x0, x1 => f142.b L N (f142 L N n) some x0 x1
def f142.ent (L N m : Nat) (args : List AV) (vw : View) (site : Nat) : Ans := match coeD [(.st 1), (.sl (.st 1))] vw args with
  | some (d, u) => ⟨LS, f142 L N m d.1 d.2.1, fun y => (.row site, u ++ [(site, some (.row 156 (.st 3) y))], [])⟩
  | none => Ans.no
def Φ142s (L N m : Nat) : Tells := (addT (Φ141 L N) 142 (f142.ent L N m))
noncomputable def E142 (L N m : Nat) : Env := { P := Tryz.prog, ty := tyOf, Φ := Φ142s L N m, inl := inlT, live := lives, liveX := livesX, L := L, dp := none, prom := promT, heal := healT, ren := renT }
noncomputable def f142.c0 : Code := loopAt 1 (codeOf Tryz.f142)
def f142.X0_e1 {R : Type} (κ : KX R) := fun z11 z12 z13 z14 z15 z16 => κ (.exit 1) (f142.T0_e1 z11 z12 z13 z14 z15 z16) (f142.H0_e1 z11 z12 z13 z14 z15 z16)
def f142.R0 {R : Type} (rec : KT R) := fun s4 s5 s6 s7 s8 s9 s10 => rec (f142.T0 s4 s5 s6 s7 s8 s9 s10) (f142.H0 s4 s5 s6 s7 s8 s9 s10)
theorem f142.s0_eq {R : Type} (L N m : Nat) (κ : KX R) (rec : KT R) (s4 : Int) (s5 : Int) (s6 : Int) (s7 : LT) (s8 : LS) (s9 : LS) (s10 : LS) :
    evRd (E142 L N m) (evCallI (E142 L N m) 1 2000) 1000 142 217 1 f142.c0 κ rec (f142.T0 s4 s5 s6 s7 s8 s9 s10) (f142.H0 s4 s5 s6 s7 s8 s9 s10)
    = f142.s0 L N (f142 L N m) (f142.X0_e1 κ) (f142.R0 rec) s4 s5 s6 s7 s8 s9 s10 := by kernel_rfl
theorem f142.l0_eq {R : Type} (L N m : Nat) (κ : KX R) : ∀ (n : Nat) (s4 : Int) (s5 : Int) (s6 : Int) (s7 : LT) (s8 : LS) (s9 : LS) (s10 : LS),
    evLp (E142 L N m) (evCallI (E142 L N m) 1 2000) 1000 142 217 1 f142.c0 κ n (f142.T0 s4 s5 s6 s7 s8 s9 s10) (f142.H0 s4 s5 s6 s7 s8 s9 s10)
    = f142.l0 L N (f142 L N m) (f142.X0_e1 κ) n s4 s5 s6 s7 s8 s9 s10 := by
  intro n
  induction n with
  | zero => intros; rfl
  | succ n ih =>
    intro s4 s5 s6 s7 s8 s9 s10
    rw [evLp_succ, f142.s0_eq]
    delta f142.R0
    simp only [ih]
    rfl
noncomputable def f142.c1 : Code := loopAt 3 (codeOf Tryz.f142)
def f142.X1_e3 {R : Type} (κ : KX R) := fun z24 z25 z26 => κ (.exit 3) (f142.T1_e3 z24 z25 z26) (f142.H1_e3 z24 z25 z26)
def f142.R1 {R : Type} (rec : KT R) := fun s17 s18 s19 s20 s21 s22 s23 => rec (f142.T1 s17 s18 s19 s20 s21 s22 s23) (f142.H1 s17 s18 s19 s20 s21 s22 s23)
theorem f142.s1_eq {R : Type} (L N m : Nat) (κ : KX R) (rec : KT R) (s17 : Int) (s18 : Int) (s19 : Int) (s20 : LT) (s21 : LS) (s22 : LS) (s23 : LS) :
    evRd (E142 L N m) (evCallI (E142 L N m) 1 2000) 1000 142 217 3 f142.c1 κ rec (f142.T1 s17 s18 s19 s20 s21 s22 s23) (f142.H1 s17 s18 s19 s20 s21 s22 s23)
    = f142.s1 L N (f142 L N m) (f142.X1_e3 κ) (f142.R1 rec) s17 s18 s19 s20 s21 s22 s23 := by kernel_rfl
theorem f142.l1_eq {R : Type} (L N m : Nat) (κ : KX R) : ∀ (n : Nat) (s17 : Int) (s18 : Int) (s19 : Int) (s20 : LT) (s21 : LS) (s22 : LS) (s23 : LS),
    evLp (E142 L N m) (evCallI (E142 L N m) 1 2000) 1000 142 217 3 f142.c1 κ n (f142.T1 s17 s18 s19 s20 s21 s22 s23) (f142.H1 s17 s18 s19 s20 s21 s22 s23)
    = f142.l1 L N (f142 L N m) (f142.X1_e3 κ) n s17 s18 s19 s20 s21 s22 s23 := by
  intro n
  induction n with
  | zero => intros; rfl
  | succ n ih =>
    intro s17 s18 s19 s20 s21 s22 s23
    rw [evLp_succ, f142.s1_eq]
    delta f142.R1
    simp only [ih]
    rfl
noncomputable def f142.c2 : Code := loopAt 5 (codeOf Tryz.f142)
noncomputable def f142.c3 : Code := loopAt 7 f142.c2
def f142.X3_e7 {R : Type} (κ : KX R) := fun z37 z38 z39 z40 => κ (.exit 7) (f142.T3_e7 z37 z38 z39 z40) (f142.H3_e7 z37 z38 z39 z40)
def f142.R3 {R : Type} (rec : KT R) := fun s32 s33 s34 s35 s36 => rec (f142.T3 s32 s33 s34 s35 s36) (f142.H3 s32 s33 s34 s35 s36)
theorem f142.s3_eq {R : Type} (L N m : Nat) (κ : KX R) (rec : KT R) (s32 : Int) (s33 : Int) (s34 : LS) (s35 : LS) (s36 : LS) :
    evRd (E142 L N m) (evCallI (E142 L N m) 1 2000) 1000 142 217 7 f142.c3 κ rec (f142.T3 s32 s33 s34 s35 s36) (f142.H3 s32 s33 s34 s35 s36)
    = f142.s3 L N (f142 L N m) (f142.X3_e7 κ) (f142.R3 rec) s32 s33 s34 s35 s36 := by kernel_rfl
theorem f142.l3_eq {R : Type} (L N m : Nat) (κ : KX R) : ∀ (n : Nat) (s32 : Int) (s33 : Int) (s34 : LS) (s35 : LS) (s36 : LS),
    evLp (E142 L N m) (evCallI (E142 L N m) 1 2000) 1000 142 217 7 f142.c3 κ n (f142.T3 s32 s33 s34 s35 s36) (f142.H3 s32 s33 s34 s35 s36)
    = f142.l3 L N (f142 L N m) (f142.X3_e7 κ) n s32 s33 s34 s35 s36 := by
  intro n
  induction n with
  | zero => intros; rfl
  | succ n ih =>
    intro s32 s33 s34 s35 s36
    rw [evLp_succ, f142.s3_eq]
    delta f142.R3
    simp only [ih]
    rfl
def f142.X2_e5 {R : Type} (κ : KX R) := fun z31 => κ (.exit 5) (f142.T2_e5 z31) (f142.H2_e5 z31)
def f142.R2 {R : Type} (rec : KT R) := fun s27 s28 s29 s30 => rec (f142.T2 s27 s28 s29 s30) (f142.H2 s27 s28 s29 s30)
theorem f142.p3_e7_eq {R : Type} (L N m : Nat) (κ : KX R) (rec : KT R) (z37 : Int) (z38 : LS) (z39 : LS) (z40 : LS) :
    (contAt (E142 L N m) (evCallI (E142 L N m) 1 2000) 1000 142 217 7 f142.c2 (rdK (E142 L N m) 1000 142 217 5 κ rec)) (.exit 7) (f142.T3_e7 z37 z38 z39 z40) (f142.H3_e7 z37 z38 z39 z40)
    = f142.p3_e7 L N (f142 L N m) (f142.X2_e5 κ) (f142.R2 rec) z37 z38 z39 z40 := by kernel_rfl
theorem f142.s2_eq {R : Type} (L N m : Nat) (κ : KX R) (rec : KT R) (s27 : Int) (s28 : LS) (s29 : LS) (s30 : LS) :
    evRd (E142 L N m) (evCallI (E142 L N m) 1 2000) 1000 142 217 5 f142.c2 κ rec (f142.T2 s27 s28 s29 s30) (f142.H2 s27 s28 s29 s30)
    = f142.s2 L N (f142 L N m) (f142.X2_e5 κ) (f142.R2 rec) s27 s28 s29 s30 := by
  refine Eq.trans (b := f142.s2' L N (f142 L N m) (f142.X2_e5 κ) (f142.R2 rec) (fun s32 s33 s34 s35 s36 => evLp (E142 L N m) (evCallI (E142 L N m) 1 2000) 1000 142 217 7 f142.c3 (contAt (E142 L N m) (evCallI (E142 L N m) 1 2000) 1000 142 217 7 f142.c2 (rdK (E142 L N m) 1000 142 217 5 κ rec)) L (f142.T3 s32 s33 s34 s35 s36) (f142.H3 s32 s33 s34 s35 s36)) s27 s28 s29 s30) (by kernel_rfl) ?_
  unfold f142.s2
  simp only [f142.l3_eq]
  delta f142.X3_e7
  simp only [f142.p3_e7_eq]
theorem f142.l2_eq {R : Type} (L N m : Nat) (κ : KX R) : ∀ (n : Nat) (s27 : Int) (s28 : LS) (s29 : LS) (s30 : LS),
    evLp (E142 L N m) (evCallI (E142 L N m) 1 2000) 1000 142 217 5 f142.c2 κ n (f142.T2 s27 s28 s29 s30) (f142.H2 s27 s28 s29 s30)
    = f142.l2 L N (f142 L N m) (f142.X2_e5 κ) n s27 s28 s29 s30 := by
  intro n
  induction n with
  | zero => intros; rfl
  | succ n ih =>
    intro s27 s28 s29 s30
    rw [evLp_succ, f142.s2_eq]
    delta f142.R2
    simp only [ih]
    rfl
theorem f142.p2_e5_eq {R : Type} (L N m : Nat) (κ : List Step → Option R) (z31 : LS) :
    (contAt (E142 L N m) (evCallI (E142 L N m) 1 2000) 1000 142 217 5 (codeOf Tryz.f142) (finK (E142 L N m) 1000 Tryz.f142 (finRow 156 (.st 3) κ))) (.exit 5) (f142.T2_e5 z31) (f142.H2_e5 z31)
    = f142.p2_e5 L N (f142 L N m) κ z31 := by kernel_rfl
theorem f142.p1_e3_eq {R : Type} (L N m : Nat) (κ : List Step → Option R) (z24 : LS) (z25 : LS) (z26 : LS) :
    (contAt (E142 L N m) (evCallI (E142 L N m) 1 2000) 1000 142 217 3 (codeOf Tryz.f142) (finK (E142 L N m) 1000 Tryz.f142 (finRow 156 (.st 3) κ))) (.exit 3) (f142.T1_e3 z24 z25 z26) (f142.H1_e3 z24 z25 z26)
    = f142.p1_e3 L N (f142 L N m) κ z24 z25 z26 := by
  refine Eq.trans (b := f142.p1_e3' L N (f142 L N m) κ (fun s27 s28 s29 s30 => evLp (E142 L N m) (evCallI (E142 L N m) 1 2000) 1000 142 217 5 f142.c2 (contAt (E142 L N m) (evCallI (E142 L N m) 1 2000) 1000 142 217 5 (codeOf Tryz.f142) (finK (E142 L N m) 1000 Tryz.f142 (finRow 156 (.st 3) κ))) L (f142.T2 s27 s28 s29 s30) (f142.H2 s27 s28 s29 s30)) z24 z25 z26) (by kernel_rfl) ?_
  unfold f142.p1_e3
  simp only [f142.l2_eq]
  delta f142.X2_e5
  simp only [f142.p2_e5_eq]
theorem f142.p0_e1_eq {R : Type} (L N m : Nat) (κ : List Step → Option R) (z11 : Int) (z12 : Int) (z13 : LT) (z14 : LS) (z15 : LS) (z16 : LS) :
    (contAt (E142 L N m) (evCallI (E142 L N m) 1 2000) 1000 142 217 1 (codeOf Tryz.f142) (finK (E142 L N m) 1000 Tryz.f142 (finRow 156 (.st 3) κ))) (.exit 1) (f142.T0_e1 z11 z12 z13 z14 z15 z16) (f142.H0_e1 z11 z12 z13 z14 z15 z16)
    = f142.p0_e1 L N (f142 L N m) κ z11 z12 z13 z14 z15 z16 := by
  refine Eq.trans (b := f142.p0_e1' L N (f142 L N m) κ (fun s17 s18 s19 s20 s21 s22 s23 => evLp (E142 L N m) (evCallI (E142 L N m) 1 2000) 1000 142 217 3 f142.c1 (contAt (E142 L N m) (evCallI (E142 L N m) 1 2000) 1000 142 217 3 (codeOf Tryz.f142) (finK (E142 L N m) 1000 Tryz.f142 (finRow 156 (.st 3) κ))) L (f142.T1 s17 s18 s19 s20 s21 s22 s23) (f142.H1 s17 s18 s19 s20 s21 s22 s23)) z11 z12 z13 z14 z15 z16) (by kernel_rfl) ?_
  unfold f142.p0_e1
  simp only [f142.l1_eq]
  delta f142.X1_e3
  simp only [f142.p1_e3_eq]
noncomputable def f142.c4 : Code := loopAt 9 (codeOf Tryz.f142)
def f142.X4_e9 {R : Type} (κ : KX R) := fun z59 => κ (.exit 9) (f142.T4_e9 z59) (f142.H4_e9 z59)
def f142.R4 {R : Type} (rec : KT R) := fun s53 s54 s55 s56 s57 s58 => rec (f142.T4 s53 s54 s55 s56 s57 s58) (f142.H4 s53 s54 s55 s56 s57 s58)
theorem f142.s4_eq {R : Type} (L N m : Nat) (κ : KX R) (rec : KT R) (s53 : Int) (s54 : Int) (s55 : Int) (s56 : LT) (s57 : LS) (s58 : LS) :
    evRd (E142 L N m) (evCallI (E142 L N m) 1 2000) 1000 142 217 9 f142.c4 κ rec (f142.T4 s53 s54 s55 s56 s57 s58) (f142.H4 s53 s54 s55 s56 s57 s58)
    = f142.s4 L N (f142 L N m) (f142.X4_e9 κ) (f142.R4 rec) s53 s54 s55 s56 s57 s58 := by kernel_rfl
theorem f142.l4_eq {R : Type} (L N m : Nat) (κ : KX R) : ∀ (n : Nat) (s53 : Int) (s54 : Int) (s55 : Int) (s56 : LT) (s57 : LS) (s58 : LS),
    evLp (E142 L N m) (evCallI (E142 L N m) 1 2000) 1000 142 217 9 f142.c4 κ n (f142.T4 s53 s54 s55 s56 s57 s58) (f142.H4 s53 s54 s55 s56 s57 s58)
    = f142.l4 L N (f142 L N m) (f142.X4_e9 κ) n s53 s54 s55 s56 s57 s58 := by
  intro n
  induction n with
  | zero => intros; rfl
  | succ n ih =>
    intro s53 s54 s55 s56 s57 s58
    rw [evLp_succ, f142.s4_eq]
    delta f142.R4
    simp only [ih]
    rfl
theorem f142.p4_e9_eq {R : Type} (L N m : Nat) (κ : List Step → Option R) (z59 : LS) :
    (contAt (E142 L N m) (evCallI (E142 L N m) 1 2000) 1000 142 217 9 (codeOf Tryz.f142) (finK (E142 L N m) 1000 Tryz.f142 (finRow 156 (.st 3) κ))) (.exit 9) (f142.T4_e9 z59) (f142.H4_e9 z59)
    = f142.p4_e9 L N (f142 L N m) κ z59 := by kernel_rfl
theorem f142.b_eq {R : Type} (L N m : Nat) (κ : List Step → Option R) (x0 : Tree) (x1 : LT) :
    evBody (E142 L N m) (evCallI (E142 L N m) 1 2000) 1000 142 Tryz.f142 [(.tv (.st 1) x0), (.tv (.sl (.st 1)) x1)] [] [] (finRow 156 (.st 3) κ)
    = f142.b L N (f142 L N m) κ x0 x1 := by
  refine Eq.trans (b := f142.b' L N (f142 L N m) κ (fun s4 s5 s6 s7 s8 s9 s10 => evLp (E142 L N m) (evCallI (E142 L N m) 1 2000) 1000 142 217 1 f142.c0 (contAt (E142 L N m) (evCallI (E142 L N m) 1 2000) 1000 142 217 1 (codeOf Tryz.f142) (finK (E142 L N m) 1000 Tryz.f142 (finRow 156 (.st 3) κ))) L (f142.T0 s4 s5 s6 s7 s8 s9 s10) (f142.H0 s4 s5 s6 s7 s8 s9 s10)) (fun s53 s54 s55 s56 s57 s58 => evLp (E142 L N m) (evCallI (E142 L N m) 1 2000) 1000 142 217 9 f142.c4 (contAt (E142 L N m) (evCallI (E142 L N m) 1 2000) 1000 142 217 9 (codeOf Tryz.f142) (finK (E142 L N m) 1000 Tryz.f142 (finRow 156 (.st 3) κ))) L (f142.T4 s53 s54 s55 s56 s57 s58) (f142.H4 s53 s54 s55 s56 s57 s58)) x0 x1) (by kernel_rfl) ?_
  unfold f142.b
  simp only [f142.l0_eq, f142.l4_eq]
  delta f142.X0_e1 f142.X4_e9
  simp only [f142.p0_e1_eq, f142.p4_e9_eq]
theorem f142.ok (L N m : Nat) (hΦ : TellsOk Tryz.prog (Φ142s L N m)) : EntOk Tryz.prog 142 (f142.ent L N (m + 1)) := by
  intro args vw site h
  unfold f142.ent
  split
  · rename_i d u ha
    intro y hy hs
    refine call_row (dep := 1000) (E := (E142 L N m)) (sound_of hΦ) okP (callI_sound (sound_of hΦ) okP 1 2000) (f := Tryz.f142) rfl hs ha ?_ site
    exact (f142.b_eq L N m some d.1 d.2.1).trans hy
  · intro y hy
    cases hy
theorem Φ142s_ok (L N : Nat) : ∀ m, TellsOk Tryz.prog (Φ142s L N m) := by
  intro m
  induction m with
  | zero => exact (addT_ok (Φ141_ok L N) (fun args vw site h => by unfold f142.ent; split <;> (intro y hy; cases hy)))
  | succ m ih => exact (addT_ok (Φ141_ok L N) (f142.ok L N m ih))
def Φ142 (L N : Nat) : Tells := (addT (Φ141 L N) 142 (f142.ent L N N))
theorem Φ142_ok (L N : Nat) : TellsOk Tryz.prog (Φ142 L N) := Φ142s_ok L N N
def f112.s2' {R : Type} (L N : Nat) (k2_e4 : LT → Int → Int → ByteArray → Int → LT → LY → LS → LM → LLM → Option R) (rec2 : LT → Int → Int → ByteArray → Int → LT → LY → LS → LM → LLM → Option R) (s23 : LT) (s24 : Int) (s25 : Int) (s26 : ByteArray) (s27 : Int) (s28 : LT) (s29 : LY) (s30 : LS) (s31 : LM) (s32 : LLM) : Option R :=
  bif (decide (s27 < (s29.length : Int))) then
    bif (decide (0 ≤ s27) && decide (s27 < (s29.length : Int))) then
      bif (!((listAt s29 ByteArray.empty s27.toNat).toList == s26.toList)) then
        rec2 s23 s24 s25 s26 (wi (s27 + (1 : Int))) s28 s29 s30 s31 s32
      else k2_e4 s23 s24 s25 s26 s27 s28 s29 s30 s31 s32
    else none
  else k2_e4 s23 s24 s25 s26 s27 s28 s29 s30 s31 s32
def f112.s2 {R : Type} (L N : Nat) (k2_e4 : LT → Int → Int → ByteArray → Int → LT → LY → LS → LM → LLM → Option R) (rec2 : LT → Int → Int → ByteArray → Int → LT → LY → LS → LM → LLM → Option R) (s23 : LT) (s24 : Int) (s25 : Int) (s26 : ByteArray) (s27 : Int) (s28 : LT) (s29 : LY) (s30 : LS) (s31 : LM) (s32 : LLM) : Option R :=
  f112.s2' L N k2_e4 rec2 s23 s24 s25 s26 s27 s28 s29 s30 s31 s32
def f112.l2 {R : Type} (L N : Nat) (k2_e4 : LT → Int → Int → ByteArray → Int → LT → LY → LS → LM → LLM → Option R) : Nat → LT → Int → Int → ByteArray → Int → LT → LY → LS → LM → LLM → Option R
  | 0, _, _, _, _, _, _, _, _, _, _ => none
  | n + 1, s23, s24, s25, s26, s27, s28, s29, s30, s31, s32 => f112.s2 L N k2_e4 (f112.l2 L N k2_e4 n) s23 s24 s25 s26 s27 s28 s29 s30 s31 s32
def f112.T2 (s23 : LT) (s24 : Int) (s25 : Int) (s26 : ByteArray) (s27 : Int) (s28 : LT) (s29 : LY) (s30 : LS) (s31 : LM) (s32 : LLM) : T := mkT 106 [(1, (.tv (.sl (.st 1)) s23)), (4, (.ptr 1004 0)), (6, (.row 1016)), (7, (.row 1019)), (8, (.ptr 1008 0)), (9, (.tv i64 s24)), (10, (.row 1032)), (11, (.row 1033)), (12, (.tv i64 s25)), (13, (.tv .str s26)), (14, (.tv i64 s27))]
def f112.H2 (s23 : LT) (s24 : Int) (s25 : Int) (s26 : ByteArray) (s27 : Int) (s28 : LT) (s29 : LY) (s30 : LS) (s31 : LM) (s32 : LLM) : H := [(1004, (.box [.nil])), (1008, (.box [(.row 1900)])), (1016, (.row 107 (.st 1) s28)), (1019, (.row 9 .str s29)), (1032, (.row 156 (.st 3) s30)), (1033, (.row 48 (.st 0) s31)), (1900, (.row 46 (.sl (.st 0)) s32))]
def f112.T2_e4 (z44 : LT) (z45 : Int) (z46 : Int) (z47 : ByteArray) (z48 : Int) (z49 : LT) (z50 : LY) (z51 : LS) (z52 : LM) (z53 : LLM) : T := mkT 106 [(1, (.tv (.sl (.st 1)) z44)), (4, (.ptr 1004 0)), (6, (.row 1016)), (7, (.row 1019)), (8, (.ptr 1008 0)), (9, (.tv i64 z45)), (10, (.row 1032)), (11, (.row 1033)), (12, (.tv i64 z46)), (13, (.tv .str z47)), (14, (.tv i64 z48))]
def f112.H2_e4 (z44 : LT) (z45 : Int) (z46 : Int) (z47 : ByteArray) (z48 : Int) (z49 : LT) (z50 : LY) (z51 : LS) (z52 : LM) (z53 : LLM) : H := [(1004, (.box [.nil])), (1008, (.box [(.row 1900)])), (1016, (.row 107 (.st 1) z49)), (1019, (.row 9 .str z50)), (1032, (.row 156 (.st 3) z51)), (1033, (.row 48 (.st 0) z52)), (1900, (.row 46 (.sl (.st 0)) z53))]
def f112.j1' {R : Type} (L N : Nat) (k1_e2 : LT → Int → LT → LY → LM → LLM → Option R) (k1_r : LT → Bool → Int → LT → LY → LM → LLM → Option R) (rec1 : LT → Int → Int → LT → LY → LS → LM → LLM → Option R) (v93 : LT) (v94 : Int) (v95 : Int) (v96 : Int) (v97 : LT) (v98 : LY) (v99 : LS) (v100 : LM) (v101 : LLM) : Option R :=
  bif (decide (0 ≤ v95) && decide (v95 < (v99.length : Int))) then
    bif (decide (v100.length + ([(Move.mk ((listAt v99 (Ty.dflt (.st 3)) v95.toNat).act) v96)] : LM).length ≤ lim)) then
      rec1 v93 v94 (wi (v95 + (1 : Int))) v97 v98 v99 (v100 ++ ([(Move.mk ((listAt v99 (Ty.dflt (.st 3)) v95.toNat).act) v96)] : LM)) v101
    else none
  else none
def f112.j0' {R : Type} (L N : Nat) (k1_e2 : LT → Int → LT → LY → LM → LLM → Option R) (k1_r : LT → Bool → Int → LT → LY → LM → LLM → Option R) (rec1 : LT → Int → Int → LT → LY → LS → LM → LLM → Option R) (v83 : LT) (v84 : Int) (v85 : Int) (v86 : ByteArray) (v87 : Int) (v88 : LT) (v89 : LY) (v90 : LS) (v91 : LM) (v92 : LLM) : Option R :=
  bif (decide (0 ≤ v85) && decide (v85 < (v90.length : Int))) then
    bif (decide (v88.length + ([(Tree.mk ((listAt v90 (Ty.dflt (.st 3)) v85.toNat).thn.op) ((listAt v90 (Ty.dflt (.st 3)) v85.toNat).thn.n) ((listAt v90 (Ty.dflt (.st 3)) v85.toNat).thn.parts))] : LT).length ≤ lim)) then
      bif (decide (v89.length + ([v86] : LY).length ≤ lim)) then
        f112.j1' L N k1_e2 k1_r rec1 v83 v84 v85 v87 (v88 ++ ([(Tree.mk ((listAt v90 (Ty.dflt (.st 3)) v85.toNat).thn.op) ((listAt v90 (Ty.dflt (.st 3)) v85.toNat).thn.n) ((listAt v90 (Ty.dflt (.st 3)) v85.toNat).thn.parts))] : LT)) (v89 ++ ([v86] : LY)) v90 v91 v92
      else none
    else none
  else none
def f112.p2_e4' {R : Type} (L N : Nat) (k1_e2 : LT → Int → LT → LY → LM → LLM → Option R) (k1_r : LT → Bool → Int → LT → LY → LM → LLM → Option R) (rec1 : LT → Int → Int → LT → LY → LS → LM → LLM → Option R) (z44 : LT) (z45 : Int) (z46 : Int) (z47 : ByteArray) (z48 : Int) (z49 : LT) (z50 : LY) (z51 : LS) (z52 : LM) (z53 : LLM) : Option R :=
  bif (z48 == (z50.length : Int)) then
    bif (z48 == (60 : Int)) then
      k1_r z44 false z45 z49 z50 z52 z53
    else bif (decide (0 ≤ z46) && decide (z46 < (z51.length : Int))) then
      (f143 L N N (Tree.mk ((listAt z51 (Ty.dflt (.st 3)) z46.toNat).thn.op) ((listAt z51 (Ty.dflt (.st 3)) z46.toNat).thn.n) ((listAt z51 (Ty.dflt (.st 3)) z46.toNat).thn.parts))).bind fun y64 =>
      bif (decide (y64 > (24 : Int))) then
        k1_r z44 false z45 z49 z50 z52 z53
      else f112.j0' L N k1_e2 k1_r rec1 z44 z45 z46 z47 z48 z49 z50 z51 z52 z53
    else none
  else f112.j1' L N k1_e2 k1_r rec1 z44 z45 z46 z48 z49 z50 z51 z52 z53
def f112.p2_e4 {R : Type} (L N : Nat) (k1_e2 : LT → Int → LT → LY → LM → LLM → Option R) (k1_r : LT → Bool → Int → LT → LY → LM → LLM → Option R) (rec1 : LT → Int → Int → LT → LY → LS → LM → LLM → Option R) (z44 : LT) (z45 : Int) (z46 : Int) (z47 : ByteArray) (z48 : Int) (z49 : LT) (z50 : LY) (z51 : LS) (z52 : LM) (z53 : LLM) : Option R :=
  f112.p2_e4' L N k1_e2 k1_r rec1 z44 z45 z46 z47 z48 z49 z50 z51 z52 z53
def f112.s1' {R : Type} (L N : Nat) (k1_e2 : LT → Int → LT → LY → LM → LLM → Option R) (k1_r : LT → Bool → Int → LT → LY → LM → LLM → Option R) (rec1 : LT → Int → Int → LT → LY → LS → LM → LLM → Option R) (w2 : LT → Int → Int → ByteArray → Int → LT → LY → LS → LM → LLM → Option R) (s8 : LT) (s9 : Int) (s10 : Int) (s11 : LT) (s12 : LY) (s13 : LS) (s14 : LM) (s15 : LLM) : Option R :=
  bif (decide (s10 < (s13.length : Int))) then
    bif (decide (0 ≤ s10) && decide (s10 < (s13.length : Int))) then
      (f141 L N N (Tree.mk ((listAt s13 (Ty.dflt (.st 3)) s10.toNat).thn.op) ((listAt s13 (Ty.dflt (.st 3)) s10.toNat).thn.n) ((listAt s13 (Ty.dflt (.st 3)) s10.toNat).thn.parts))).bind fun y22 =>
      w2 s8 s9 s10 y22 (0 : Int) s11 s12 s13 s14 s15
    else none
  else k1_e2 s8 s9 s11 s12 s14 s15
def f112.s1 {R : Type} (L N : Nat) (k1_e2 : LT → Int → LT → LY → LM → LLM → Option R) (k1_r : LT → Bool → Int → LT → LY → LM → LLM → Option R) (rec1 : LT → Int → Int → LT → LY → LS → LM → LLM → Option R) (s8 : LT) (s9 : Int) (s10 : Int) (s11 : LT) (s12 : LY) (s13 : LS) (s14 : LM) (s15 : LLM) : Option R :=
  f112.s1' L N k1_e2 k1_r rec1 (fun s23 s24 s25 s26 s27 s28 s29 s30 s31 s32 => f112.l2 L N (fun z44 z45 z46 z47 z48 z49 z50 z51 z52 z53 => f112.p2_e4 L N k1_e2 k1_r rec1 z44 z45 z46 z47 z48 z49 z50 z51 z52 z53) L s23 s24 s25 s26 s27 s28 s29 s30 s31 s32) s8 s9 s10 s11 s12 s13 s14 s15
def f112.l1 {R : Type} (L N : Nat) (k1_e2 : LT → Int → LT → LY → LM → LLM → Option R) (k1_r : LT → Bool → Int → LT → LY → LM → LLM → Option R) : Nat → LT → Int → Int → LT → LY → LS → LM → LLM → Option R
  | 0, _, _, _, _, _, _, _, _ => none
  | n + 1, s8, s9, s10, s11, s12, s13, s14, s15 => f112.s1 L N k1_e2 k1_r (f112.l1 L N k1_e2 k1_r n) s8 s9 s10 s11 s12 s13 s14 s15
def f112.T1 (s8 : LT) (s9 : Int) (s10 : Int) (s11 : LT) (s12 : LY) (s13 : LS) (s14 : LM) (s15 : LLM) : T := mkT 106 [(1, (.tv (.sl (.st 1)) s8)), (4, (.ptr 1004 0)), (6, (.row 1016)), (7, (.row 1019)), (8, (.ptr 1008 0)), (9, (.tv i64 s9)), (10, (.row 1032)), (11, (.row 1033)), (12, (.tv i64 s10))]
def f112.H1 (s8 : LT) (s9 : Int) (s10 : Int) (s11 : LT) (s12 : LY) (s13 : LS) (s14 : LM) (s15 : LLM) : H := [(1004, (.box [.nil])), (1008, (.box [(.row 1900)])), (1016, (.row 107 (.st 1) s11)), (1019, (.row 9 .str s12)), (1032, (.row 156 (.st 3) s13)), (1033, (.row 48 (.st 0) s14)), (1900, (.row 46 (.sl (.st 0)) s15))]
def f112.T1_e2 (z16 : LT) (z17 : Int) (z18 : LT) (z19 : LY) (z20 : LM) (z21 : LLM) : T := mkT 106 [(1, (.tv (.sl (.st 1)) z16)), (4, (.ptr 1004 0)), (6, (.row 1016)), (7, (.row 1019)), (8, (.ptr 1008 0)), (9, (.tv i64 z17)), (11, (.row 1033))]
def f112.H1_e2 (z16 : LT) (z17 : Int) (z18 : LT) (z19 : LY) (z20 : LM) (z21 : LLM) : H := [(1004, (.box [.nil])), (1008, (.box [(.row 1900)])), (1016, (.row 107 (.st 1) z18)), (1019, (.row 9 .str z19)), (1033, (.row 48 (.st 0) z20)), (1900, (.row 46 (.sl (.st 0)) z21))]
def f112.T1_r (z76 : LT) (z77 : Bool) (z78 : Int) (z79 : LT) (z80 : LY) (z81 : LM) (z82 : LLM) : T := mkT 106 [(1, (.tv (.sl (.st 1)) z76)), (4, (.ptr 1004 0)), (5, (.tv .bool z77)), (6, (.row 1016)), (7, (.row 1019)), (8, (.ptr 1008 0)), (9, (.tv i64 z78)), (11, (.row 1033))]
def f112.H1_r (z76 : LT) (z77 : Bool) (z78 : Int) (z79 : LT) (z80 : LY) (z81 : LM) (z82 : LLM) : H := [(1004, (.box [.nil])), (1008, (.box [(.row 1900)])), (1016, (.row 107 (.st 1) z79)), (1019, (.row 9 .str z80)), (1033, (.row 48 (.st 0) z81)), (1900, (.row 46 (.sl (.st 0)) z82))]
def f112.p1_e2' {R : Type} (L N : Nat) (k0_e0 : LLM → Option R) (k0_r : Bool → LLM → Option R) (rec0 : LT → Int → LT → LY → LLM → Option R) (z16 : LT) (z17 : Int) (z18 : LT) (z19 : LY) (z20 : LM) (z21 : LLM) : Option R :=
  (f28 L N z20).bind fun y104 =>
  bif (decide (z21.length + ([y104] : LLM).length ≤ lim)) then
    rec0 z16 (wi (z17 + (1 : Int))) z18 z19 (z21 ++ ([y104] : LLM))
  else none
def f112.p1_e2 {R : Type} (L N : Nat) (k0_e0 : LLM → Option R) (k0_r : Bool → LLM → Option R) (rec0 : LT → Int → LT → LY → LLM → Option R) (z16 : LT) (z17 : Int) (z18 : LT) (z19 : LY) (z20 : LM) (z21 : LLM) : Option R :=
  f112.p1_e2' L N k0_e0 k0_r rec0 z16 z17 z18 z19 z20 z21
def f112.p1_r' {R : Type} (L N : Nat) (k0_e0 : LLM → Option R) (k0_r : Bool → LLM → Option R) (rec0 : LT → Int → LT → LY → LLM → Option R) (z76 : LT) (z77 : Bool) (z78 : Int) (z79 : LT) (z80 : LY) (z81 : LM) (z82 : LLM) : Option R :=
  k0_r z77 z82
def f112.p1_r {R : Type} (L N : Nat) (k0_e0 : LLM → Option R) (k0_r : Bool → LLM → Option R) (rec0 : LT → Int → LT → LY → LLM → Option R) (z76 : LT) (z77 : Bool) (z78 : Int) (z79 : LT) (z80 : LY) (z81 : LM) (z82 : LLM) : Option R :=
  f112.p1_r' L N k0_e0 k0_r rec0 z76 z77 z78 z79 z80 z81 z82
def f112.s0' {R : Type} (L N : Nat) (k0_e0 : LLM → Option R) (k0_r : Bool → LLM → Option R) (rec0 : LT → Int → LT → LY → LLM → Option R) (w1 : LT → Int → Int → LT → LY → LS → LM → LLM → Option R) (s1 : LT) (s2 : Int) (s3 : LT) (s4 : LY) (s5 : LLM) : Option R :=
  bif (decide (s2 < (s3.length : Int))) then
    bif (decide (0 ≤ s2) && decide (s2 < (s3.length : Int))) then
      (f142 L N N (listAt s3 (Ty.dflt (.st 1)) s2.toNat) s1).bind fun y7 =>
      w1 s1 s2 (0 : Int) s3 s4 y7 ([] : LM) s5
    else none
  else k0_e0 s5
def f112.s0 {R : Type} (L N : Nat) (k0_e0 : LLM → Option R) (k0_r : Bool → LLM → Option R) (rec0 : LT → Int → LT → LY → LLM → Option R) (s1 : LT) (s2 : Int) (s3 : LT) (s4 : LY) (s5 : LLM) : Option R :=
  f112.s0' L N k0_e0 k0_r rec0 (fun s8 s9 s10 s11 s12 s13 s14 s15 => f112.l1 L N (fun z16 z17 z18 z19 z20 z21 => f112.p1_e2 L N k0_e0 k0_r rec0 z16 z17 z18 z19 z20 z21) (fun z76 z77 z78 z79 z80 z81 z82 => f112.p1_r L N k0_e0 k0_r rec0 z76 z77 z78 z79 z80 z81 z82) L s8 s9 s10 s11 s12 s13 s14 s15) s1 s2 s3 s4 s5
def f112.l0 {R : Type} (L N : Nat) (k0_e0 : LLM → Option R) (k0_r : Bool → LLM → Option R) : Nat → LT → Int → LT → LY → LLM → Option R
  | 0, _, _, _, _, _ => none
  | n + 1, s1, s2, s3, s4, s5 => f112.s0 L N k0_e0 k0_r (f112.l0 L N k0_e0 k0_r n) s1 s2 s3 s4 s5
def f112.T0 (s1 : LT) (s2 : Int) (s3 : LT) (s4 : LY) (s5 : LLM) : T := mkT 106 [(1, (.tv (.sl (.st 1)) s1)), (4, (.ptr 1004 0)), (6, (.row 1016)), (7, (.row 1019)), (8, (.ptr 1008 0)), (9, (.tv i64 s2))]
def f112.H0 (s1 : LT) (s2 : Int) (s3 : LT) (s4 : LY) (s5 : LLM) : H := [(1004, (.box [.nil])), (1008, (.box [(.row 1900)])), (1016, (.row 107 (.st 1) s3)), (1019, (.row 9 .str s4)), (1900, (.row 46 (.sl (.st 0)) s5))]
def f112.T0_e0 (z6 : LLM) : T := mkT 106 [(4, (.ptr 1004 0)), (8, (.ptr 1008 0))]
def f112.H0_e0 (z6 : LLM) : H := [(1004, (.box [.nil])), (1008, (.box [(.row 1900)])), (1900, (.row 46 (.sl (.st 0)) z6))]
def f112.T0_r (z102 : Bool) (z103 : LLM) : T := mkT 106 [(4, (.ptr 1004 0)), (5, (.tv .bool z102)), (8, (.ptr 1008 0))]
def f112.H0_r (z102 : Bool) (z103 : LLM) : H := [(1004, (.box [.nil])), (1008, (.box [(.row 1900)])), (1900, (.row 46 (.sl (.st 0)) z103))]
def f112.p0_e0' {R : Type} (L N : Nat) (k : Graph → Bool → Option R) (z6 : LLM) : Option R :=
  k (Graph.mk z6) true
def f112.p0_e0 {R : Type} (L N : Nat) (k : Graph → Bool → Option R) (z6 : LLM) : Option R :=
  f112.p0_e0' L N k z6
def f112.p0_r' {R : Type} (L N : Nat) (k : Graph → Bool → Option R) (z102 : Bool) (z103 : LLM) : Option R :=
  k (Graph.mk []) z102
def f112.p0_r {R : Type} (L N : Nat) (k : Graph → Bool → Option R) (z102 : Bool) (z103 : LLM) : Option R :=
  f112.p0_r' L N k z102 z103
def f112.b' {R : Type} (L N : Nat) (k : Graph → Bool → Option R) (w0 : LT → Int → LT → LY → LLM → Option R) (x0 : Tree) (x1 : LT) : Option R :=
  (f141 L N N (Tree.mk x0.op x0.n x0.parts)).bind fun y0 =>
  w0 x1 (0 : Int) ([(Tree.mk x0.op x0.n x0.parts)] : LT) ([y0] : LY) ([] : LLM)
def f112.b {R : Type} (L N : Nat) (k : Graph → Bool → Option R) (x0 : Tree) (x1 : LT) : Option R :=
  f112.b' L N k (fun s1 s2 s3 s4 s5 => f112.l0 L N (fun z6 => f112.p0_e0 L N k z6) (fun z102 z103 => f112.p0_r L N k z102 z103) L s1 s2 s3 s4 s5) x0 x1
def f112 (L N : Nat) (x0 : Tree) (x1 : LT) : Option (Graph × Bool) := f112.b L N (fun a0 a1 => some (a0, a1)) x0 x1
def f112.ent (L N : Nat) := entDa [(.st 1), (.sl (.st 1))] (.many [(.st 2), .bool]) fun d => f112 L N d.1 d.2.1
noncomputable def E112 (L N : Nat) : Env := { P := Tryz.prog, ty := tyOf, Φ := (Φ142 L N), inl := inlT, live := lives, liveX := livesX, L := L, dp := none, prom := promT, heal := healT, ren := renT }
noncomputable def f112.c0 : Code := loopAt 0 (codeOf Tryz.f112)
noncomputable def f112.c1 : Code := loopAt 2 f112.c0
noncomputable def f112.c2 : Code := loopAt 4 f112.c1
def f112.X2_e4 {R : Type} (κ : KX R) := fun z44 z45 z46 z47 z48 z49 z50 z51 z52 z53 => κ (.exit 4) (f112.T2_e4 z44 z45 z46 z47 z48 z49 z50 z51 z52 z53) (f112.H2_e4 z44 z45 z46 z47 z48 z49 z50 z51 z52 z53)
def f112.R2 {R : Type} (rec : KT R) := fun s23 s24 s25 s26 s27 s28 s29 s30 s31 s32 => rec (f112.T2 s23 s24 s25 s26 s27 s28 s29 s30 s31 s32) (f112.H2 s23 s24 s25 s26 s27 s28 s29 s30 s31 s32)
theorem f112.s2_eq {R : Type} (L N : Nat) (κ : KX R) (rec : KT R) (s23 : LT) (s24 : Int) (s25 : Int) (s26 : ByteArray) (s27 : Int) (s28 : LT) (s29 : LY) (s30 : LS) (s31 : LM) (s32 : LLM) :
    evRd (E112 L N) (evCallI (E112 L N) 1 2000) 1000 112 106 4 f112.c2 κ rec (f112.T2 s23 s24 s25 s26 s27 s28 s29 s30 s31 s32) (f112.H2 s23 s24 s25 s26 s27 s28 s29 s30 s31 s32)
    = f112.s2 L N (f112.X2_e4 κ) (f112.R2 rec) s23 s24 s25 s26 s27 s28 s29 s30 s31 s32 := by kernel_rfl
theorem f112.l2_eq {R : Type} (L N : Nat) (κ : KX R) : ∀ (n : Nat) (s23 : LT) (s24 : Int) (s25 : Int) (s26 : ByteArray) (s27 : Int) (s28 : LT) (s29 : LY) (s30 : LS) (s31 : LM) (s32 : LLM),
    evLp (E112 L N) (evCallI (E112 L N) 1 2000) 1000 112 106 4 f112.c2 κ n (f112.T2 s23 s24 s25 s26 s27 s28 s29 s30 s31 s32) (f112.H2 s23 s24 s25 s26 s27 s28 s29 s30 s31 s32)
    = f112.l2 L N (f112.X2_e4 κ) n s23 s24 s25 s26 s27 s28 s29 s30 s31 s32 := by
  intro n
  induction n with
  | zero => intros; rfl
  | succ n ih =>
    intro s23 s24 s25 s26 s27 s28 s29 s30 s31 s32
    rw [evLp_succ, f112.s2_eq]
    delta f112.R2
    simp only [ih]
    rfl
def f112.X1_e2 {R : Type} (κ : KX R) := fun z16 z17 z18 z19 z20 z21 => κ (.exit 2) (f112.T1_e2 z16 z17 z18 z19 z20 z21) (f112.H1_e2 z16 z17 z18 z19 z20 z21)
def f112.X1_r {R : Type} (κ : KX R) := fun z76 z77 z78 z79 z80 z81 z82 => κ .ret (f112.T1_r z76 z77 z78 z79 z80 z81 z82) (f112.H1_r z76 z77 z78 z79 z80 z81 z82)
def f112.R1 {R : Type} (rec : KT R) := fun s8 s9 s10 s11 s12 s13 s14 s15 => rec (f112.T1 s8 s9 s10 s11 s12 s13 s14 s15) (f112.H1 s8 s9 s10 s11 s12 s13 s14 s15)
theorem f112.p2_e4_eq {R : Type} (L N : Nat) (κ : KX R) (rec : KT R) (z44 : LT) (z45 : Int) (z46 : Int) (z47 : ByteArray) (z48 : Int) (z49 : LT) (z50 : LY) (z51 : LS) (z52 : LM) (z53 : LLM) :
    (contAt (E112 L N) (evCallI (E112 L N) 1 2000) 1000 112 106 4 f112.c1 (rdK (E112 L N) 1000 112 106 2 κ rec)) (.exit 4) (f112.T2_e4 z44 z45 z46 z47 z48 z49 z50 z51 z52 z53) (f112.H2_e4 z44 z45 z46 z47 z48 z49 z50 z51 z52 z53)
    = f112.p2_e4 L N (f112.X1_e2 κ) (f112.X1_r κ) (f112.R1 rec) z44 z45 z46 z47 z48 z49 z50 z51 z52 z53 := by kernel_rfl
theorem f112.s1_eq {R : Type} (L N : Nat) (κ : KX R) (rec : KT R) (s8 : LT) (s9 : Int) (s10 : Int) (s11 : LT) (s12 : LY) (s13 : LS) (s14 : LM) (s15 : LLM) :
    evRd (E112 L N) (evCallI (E112 L N) 1 2000) 1000 112 106 2 f112.c1 κ rec (f112.T1 s8 s9 s10 s11 s12 s13 s14 s15) (f112.H1 s8 s9 s10 s11 s12 s13 s14 s15)
    = f112.s1 L N (f112.X1_e2 κ) (f112.X1_r κ) (f112.R1 rec) s8 s9 s10 s11 s12 s13 s14 s15 := by
  refine Eq.trans (b := f112.s1' L N (f112.X1_e2 κ) (f112.X1_r κ) (f112.R1 rec) (fun s23 s24 s25 s26 s27 s28 s29 s30 s31 s32 => evLp (E112 L N) (evCallI (E112 L N) 1 2000) 1000 112 106 4 f112.c2 (contAt (E112 L N) (evCallI (E112 L N) 1 2000) 1000 112 106 4 f112.c1 (rdK (E112 L N) 1000 112 106 2 κ rec)) L (f112.T2 s23 s24 s25 s26 s27 s28 s29 s30 s31 s32) (f112.H2 s23 s24 s25 s26 s27 s28 s29 s30 s31 s32)) s8 s9 s10 s11 s12 s13 s14 s15) (by kernel_rfl) ?_
  unfold f112.s1
  simp only [f112.l2_eq]
  delta f112.X2_e4
  simp only [f112.p2_e4_eq]
theorem f112.l1_eq {R : Type} (L N : Nat) (κ : KX R) : ∀ (n : Nat) (s8 : LT) (s9 : Int) (s10 : Int) (s11 : LT) (s12 : LY) (s13 : LS) (s14 : LM) (s15 : LLM),
    evLp (E112 L N) (evCallI (E112 L N) 1 2000) 1000 112 106 2 f112.c1 κ n (f112.T1 s8 s9 s10 s11 s12 s13 s14 s15) (f112.H1 s8 s9 s10 s11 s12 s13 s14 s15)
    = f112.l1 L N (f112.X1_e2 κ) (f112.X1_r κ) n s8 s9 s10 s11 s12 s13 s14 s15 := by
  intro n
  induction n with
  | zero => intros; rfl
  | succ n ih =>
    intro s8 s9 s10 s11 s12 s13 s14 s15
    rw [evLp_succ, f112.s1_eq]
    delta f112.R1
    simp only [ih]
    rfl
def f112.X0_e0 {R : Type} (κ : KX R) := fun z6 => κ (.exit 0) (f112.T0_e0 z6) (f112.H0_e0 z6)
def f112.X0_r {R : Type} (κ : KX R) := fun z102 z103 => κ .ret (f112.T0_r z102 z103) (f112.H0_r z102 z103)
def f112.R0 {R : Type} (rec : KT R) := fun s1 s2 s3 s4 s5 => rec (f112.T0 s1 s2 s3 s4 s5) (f112.H0 s1 s2 s3 s4 s5)
theorem f112.p1_e2_eq {R : Type} (L N : Nat) (κ : KX R) (rec : KT R) (z16 : LT) (z17 : Int) (z18 : LT) (z19 : LY) (z20 : LM) (z21 : LLM) :
    (contAt (E112 L N) (evCallI (E112 L N) 1 2000) 1000 112 106 2 f112.c0 (rdK (E112 L N) 1000 112 106 0 κ rec)) (.exit 2) (f112.T1_e2 z16 z17 z18 z19 z20 z21) (f112.H1_e2 z16 z17 z18 z19 z20 z21)
    = f112.p1_e2 L N (f112.X0_e0 κ) (f112.X0_r κ) (f112.R0 rec) z16 z17 z18 z19 z20 z21 := by kernel_rfl
theorem f112.p1_r_eq {R : Type} (L N : Nat) (κ : KX R) (rec : KT R) (z76 : LT) (z77 : Bool) (z78 : Int) (z79 : LT) (z80 : LY) (z81 : LM) (z82 : LLM) :
    (contAt (E112 L N) (evCallI (E112 L N) 1 2000) 1000 112 106 2 f112.c0 (rdK (E112 L N) 1000 112 106 0 κ rec)) .ret (f112.T1_r z76 z77 z78 z79 z80 z81 z82) (f112.H1_r z76 z77 z78 z79 z80 z81 z82)
    = f112.p1_r L N (f112.X0_e0 κ) (f112.X0_r κ) (f112.R0 rec) z76 z77 z78 z79 z80 z81 z82 := by kernel_rfl
theorem f112.s0_eq {R : Type} (L N : Nat) (κ : KX R) (rec : KT R) (s1 : LT) (s2 : Int) (s3 : LT) (s4 : LY) (s5 : LLM) :
    evRd (E112 L N) (evCallI (E112 L N) 1 2000) 1000 112 106 0 f112.c0 κ rec (f112.T0 s1 s2 s3 s4 s5) (f112.H0 s1 s2 s3 s4 s5)
    = f112.s0 L N (f112.X0_e0 κ) (f112.X0_r κ) (f112.R0 rec) s1 s2 s3 s4 s5 := by
  refine Eq.trans (b := f112.s0' L N (f112.X0_e0 κ) (f112.X0_r κ) (f112.R0 rec) (fun s8 s9 s10 s11 s12 s13 s14 s15 => evLp (E112 L N) (evCallI (E112 L N) 1 2000) 1000 112 106 2 f112.c1 (contAt (E112 L N) (evCallI (E112 L N) 1 2000) 1000 112 106 2 f112.c0 (rdK (E112 L N) 1000 112 106 0 κ rec)) L (f112.T1 s8 s9 s10 s11 s12 s13 s14 s15) (f112.H1 s8 s9 s10 s11 s12 s13 s14 s15)) s1 s2 s3 s4 s5) (by kernel_rfl) ?_
  unfold f112.s0
  simp only [f112.l1_eq]
  delta f112.X1_e2 f112.X1_r
  simp only [f112.p1_e2_eq, f112.p1_r_eq]
theorem f112.l0_eq {R : Type} (L N : Nat) (κ : KX R) : ∀ (n : Nat) (s1 : LT) (s2 : Int) (s3 : LT) (s4 : LY) (s5 : LLM),
    evLp (E112 L N) (evCallI (E112 L N) 1 2000) 1000 112 106 0 f112.c0 κ n (f112.T0 s1 s2 s3 s4 s5) (f112.H0 s1 s2 s3 s4 s5)
    = f112.l0 L N (f112.X0_e0 κ) (f112.X0_r κ) n s1 s2 s3 s4 s5 := by
  intro n
  induction n with
  | zero => intros; rfl
  | succ n ih =>
    intro s1 s2 s3 s4 s5
    rw [evLp_succ, f112.s0_eq]
    delta f112.R0
    simp only [ih]
    rfl
theorem f112.p0_e0_eq {R : Type} (L N : Nat) (κ : AV → Option R) (z6 : LLM) :
    (contAt (E112 L N) (evCallI (E112 L N) 1 2000) 1000 112 106 0 (codeOf Tryz.f112) (finK (E112 L N) 1000 Tryz.f112 (finC (.many [(.st 2), .bool]) κ))) (.exit 0) (f112.T0_e0 z6) (f112.H0_e0 z6)
    = f112.p0_e0 L N (fun a0 a1 => κ (.tup [(.tv (.st 2) a0), (.tv .bool a1)])) z6 := by kernel_rfl
theorem f112.p0_r_eq {R : Type} (L N : Nat) (κ : AV → Option R) (z102 : Bool) (z103 : LLM) :
    (contAt (E112 L N) (evCallI (E112 L N) 1 2000) 1000 112 106 0 (codeOf Tryz.f112) (finK (E112 L N) 1000 Tryz.f112 (finC (.many [(.st 2), .bool]) κ))) .ret (f112.T0_r z102 z103) (f112.H0_r z102 z103)
    = f112.p0_r L N (fun a0 a1 => κ (.tup [(.tv (.st 2) a0), (.tv .bool a1)])) z102 z103 := by kernel_rfl
theorem f112.b_eq {R : Type} (L N : Nat) (κ : AV → Option R) (x0 : Tree) (x1 : LT) :
    evBody (E112 L N) (evCallI (E112 L N) 1 2000) 1000 112 Tryz.f112 [(.tv (.st 1) x0), (.tv (.sl (.st 1)) x1)] [] [] (finC (.many [(.st 2), .bool]) κ)
    = f112.b L N (fun a0 a1 => κ (.tup [(.tv (.st 2) a0), (.tv .bool a1)])) x0 x1 := by
  refine Eq.trans (b := f112.b' L N (fun a0 a1 => κ (.tup [(.tv (.st 2) a0), (.tv .bool a1)])) (fun s1 s2 s3 s4 s5 => evLp (E112 L N) (evCallI (E112 L N) 1 2000) 1000 112 106 0 f112.c0 (contAt (E112 L N) (evCallI (E112 L N) 1 2000) 1000 112 106 0 (codeOf Tryz.f112) (finK (E112 L N) 1000 Tryz.f112 (finC (.many [(.st 2), .bool]) κ))) L (f112.T0 s1 s2 s3 s4 s5) (f112.H0 s1 s2 s3 s4 s5)) x0 x1) (by kernel_rfl) ?_
  unfold f112.b
  simp only [f112.l0_eq]
  delta f112.X0_e0 f112.X0_r
  simp only [f112.p0_e0_eq, f112.p0_r_eq]
theorem f112.ok (L N : Nat) (hΦ : TellsOk Tryz.prog ((Φ142 L N))) : EntOk Tryz.prog 112 (f112.ent L N) := entDa_ok (E := (E112 L N)) (dep := 1000) (f := Tryz.f112) (sound_of hΦ) okP (callI_sound (sound_of hΦ) okP 1 2000) rfl fun d _ hy => (f112.b_eq L N (unR (.many [(.st 2), .bool])) d.1 d.2.1).trans (Eq.trans (b := f112.b L N (fun a0 a1 => some (a0, a1)) d.1 d.2.1) (by kernel_rfl) hy)
def Φ112 (L N : Nat) : Tells := (addT (Φ142 L N) 112 (f112.ent L N))
theorem Φ112_ok (L N : Nat) : TellsOk Tryz.prog (Φ112 L N) := addT_ok (Φ142_ok L N) (f112.ok L N (Φ142_ok L N))
def f87.b' {R : Type} (L N : Nat) (k : Graph → Bool → Option R) (x0 : Tree) (x1 : LT) : Option R :=
  (f111 L N (Tree.mk x0.op x0.n x0.parts) x1).bind fun y0 =>
  bif (!y0) then
    k (Graph.mk []) false
  else (f112 L N (Tree.mk x0.op x0.n x0.parts) x1).bind fun y1 =>
  k (Graph.mk y1.1.moves) y1.2
def f87.b {R : Type} (L N : Nat) (k : Graph → Bool → Option R) (x0 : Tree) (x1 : LT) : Option R :=
  f87.b' L N k x0 x1
def f87 (L N : Nat) (x0 : Tree) (x1 : LT) : Option (Graph × Bool) := f87.b L N (fun a0 a1 => some (a0, a1)) x0 x1
def f87.ent (L N : Nat) := entDa [(.st 1), (.sl (.st 1))] (.many [(.st 2), .bool]) fun d => f87 L N d.1 d.2.1
noncomputable def E87 (L N : Nat) : Env := { P := Tryz.prog, ty := tyOf, Φ := (Φ112 L N), inl := inlT, live := lives, liveX := livesX, L := L, dp := none, prom := promT, heal := healT, ren := renT }
theorem f87.b_eq {R : Type} (L N : Nat) (κ : AV → Option R) (x0 : Tree) (x1 : LT) :
    evBody (E87 L N) (evCallI (E87 L N) 1 2000) 1000 87 Tryz.f87 [(.tv (.st 1) x0), (.tv (.sl (.st 1)) x1)] [] [] (finC (.many [(.st 2), .bool]) κ)
    = f87.b L N (fun a0 a1 => κ (.tup [(.tv (.st 2) a0), (.tv .bool a1)])) x0 x1 := by kernel_rfl
theorem f87.ok (L N : Nat) (hΦ : TellsOk Tryz.prog ((Φ112 L N))) : EntOk Tryz.prog 87 (f87.ent L N) := entDa_ok (E := (E87 L N)) (dep := 1000) (f := Tryz.f87) (sound_of hΦ) okP (callI_sound (sound_of hΦ) okP 1 2000) rfl fun d _ hy => (f87.b_eq L N (unR (.many [(.st 2), .bool])) d.1 d.2.1).trans (Eq.trans (b := f87.b L N (fun a0 a1 => some (a0, a1)) d.1 d.2.1) (by kernel_rfl) hy)
def Φ87 (L N : Nat) : Tells := (addT (Φ112 L N) 87 (f87.ent L N))
theorem Φ87_ok (L N : Nat) : TellsOk Tryz.prog (Φ87 L N) := addT_ok (Φ112_ok L N) (f87.ok L N (Φ112_ok L N))
def f88.j0' {R : Type} (L N : Nat) (k1_e2 : Int → Bool → Int → LI → Int → LM → LLM → LLM → Option R) (rec1 : Int → Bool → Int → Int → LI → Int → LM → LLM → LLM → Option R) (v34 : Int) (v35 : Bool) (v36 : Int) (v37 : Int) (v38 : Int) (v39 : LI) (v40 : Int) (v41 : LM) (v42 : LLM) (v43 : LLM) : Option R :=
  (f85 L N v39 v40 v34).bind fun y44 =>
  bif (decide (v41.length + ([(Move.mk v38 y44.1)] : LM).length ≤ lim)) then
    rec1 v34 v35 v36 (wi (v37 - (1 : Int))) y44.2.1 y44.2.2 (v41 ++ ([(Move.mk v38 y44.1)] : LM)) v42 v43
  else none
def f88.s1' {R : Type} (L N : Nat) (k1_e2 : Int → Bool → Int → LI → Int → LM → LLM → LLM → Option R) (rec1 : Int → Bool → Int → Int → LI → Int → LM → LLM → LLM → Option R) (s15 : Int) (s16 : Bool) (s17 : Int) (s18 : Int) (s19 : LI) (s20 : Int) (s21 : LM) (s22 : LLM) (s23 : LLM) : Option R :=
  bif (decide (s18 > (0 : Int))) then
    (f85 L N s19 s20 (3 : Int)).bind fun y32 =>
    bif (!s16) then
      (f113 L N y32.2.1 y32.2.2).bind fun y33 =>
      f88.j0' L N k1_e2 rec1 s15 s16 s17 s18 y33.1 y33.2.1 y33.2.2 s21 s22 s23
    else f88.j0' L N k1_e2 rec1 s15 s16 s17 s18 y32.1 y32.2.1 y32.2.2 s21 s22 s23
  else k1_e2 s15 s16 s17 s19 s20 s21 s22 s23
def f88.s1 {R : Type} (L N : Nat) (k1_e2 : Int → Bool → Int → LI → Int → LM → LLM → LLM → Option R) (rec1 : Int → Bool → Int → Int → LI → Int → LM → LLM → LLM → Option R) (s15 : Int) (s16 : Bool) (s17 : Int) (s18 : Int) (s19 : LI) (s20 : Int) (s21 : LM) (s22 : LLM) (s23 : LLM) : Option R :=
  f88.s1' L N k1_e2 rec1 s15 s16 s17 s18 s19 s20 s21 s22 s23
def f88.l1 {R : Type} (L N : Nat) (k1_e2 : Int → Bool → Int → LI → Int → LM → LLM → LLM → Option R) : Nat → Int → Bool → Int → Int → LI → Int → LM → LLM → LLM → Option R
  | 0, _, _, _, _, _, _, _, _, _ => none
  | n + 1, s15, s16, s17, s18, s19, s20, s21, s22, s23 => f88.s1 L N k1_e2 (f88.l1 L N k1_e2 n) s15 s16 s17 s18 s19 s20 s21 s22 s23
def f88.T1 (s15 : Int) (s16 : Bool) (s17 : Int) (s18 : Int) (s19 : LI) (s20 : Int) (s21 : LM) (s22 : LLM) (s23 : LLM) : T := mkT 84 [(0, (.ptr 0 0)), (4, (.ptr 1004 0)), (5, (.ptr 1005 0)), (6, (.tv i64 s15)), (7, (.tv .bool s16)), (8, (.tv i64 s17)), (9, (.row 1025)), (10, (.tv i64 s18))] ++ [.ptr 0 0]
def f88.H1 (s15 : Int) (s16 : Bool) (s17 : Int) (s18 : Int) (s19 : LI) (s20 : Int) (s21 : LM) (s22 : LLM) (s23 : LLM) : H := [(0, (.box [(.tv (.sl (.int .u8)) s19), (.tv i64 s20)])), (1004, (.box [(.row 1900)])), (1005, (.box [(.row 1901)])), (1025, (.row 48 (.st 0) s21)), (1900, (.deep 0 (.sl (.st 0)) s22 none)), (1901, (.deep 0 (.sl (.st 0)) s23 none))]
def f88.T1_e2 (z24 : Int) (z25 : Bool) (z26 : Int) (z27 : LI) (z28 : Int) (z29 : LM) (z30 : LLM) (z31 : LLM) : T := mkT 84 [(0, (.ptr 0 0)), (4, (.ptr 1004 0)), (5, (.ptr 1005 0)), (6, (.tv i64 z24)), (7, (.tv .bool z25)), (8, (.tv i64 z26)), (9, (.row 1025))] ++ [.ptr 0 0]
def f88.H1_e2 (z24 : Int) (z25 : Bool) (z26 : Int) (z27 : LI) (z28 : Int) (z29 : LM) (z30 : LLM) (z31 : LLM) : H := [(0, (.box [(.tv (.sl (.int .u8)) z27), (.tv i64 z28)])), (1004, (.box [(.row 1900)])), (1005, (.box [(.row 1901)])), (1025, (.row 48 (.st 0) z29)), (1900, (.deep 0 (.sl (.st 0)) z30 none)), (1901, (.deep 0 (.sl (.st 0)) z31 none))]
def f88.p1_e2' {R : Type} (L N : Nat) (k0_e0 : Int → LI → Int → LLM → LLM → Option R) (rec0 : Int → Bool → Int → LI → Int → LLM → LLM → Option R) (z24 : Int) (z25 : Bool) (z26 : Int) (z27 : LI) (z28 : Int) (z29 : LM) (z30 : LLM) (z31 : LLM) : Option R :=
  (f28 L N z29).bind fun y45 =>
  bif (decide (z31.length + ([y45] : LLM).length ≤ lim)) then
    rec0 z24 z25 (wi (z26 + (1 : Int))) z27 z28 z30 (z31 ++ ([y45] : LLM))
  else none
def f88.p1_e2 {R : Type} (L N : Nat) (k0_e0 : Int → LI → Int → LLM → LLM → Option R) (rec0 : Int → Bool → Int → LI → Int → LLM → LLM → Option R) (z24 : Int) (z25 : Bool) (z26 : Int) (z27 : LI) (z28 : Int) (z29 : LM) (z30 : LLM) (z31 : LLM) : Option R :=
  f88.p1_e2' L N k0_e0 rec0 z24 z25 z26 z27 z28 z29 z30 z31
def f88.s0' {R : Type} (L N : Nat) (k0_e0 : Int → LI → Int → LLM → LLM → Option R) (rec0 : Int → Bool → Int → LI → Int → LLM → LLM → Option R) (w1 : Int → Bool → Int → Int → LI → Int → LM → LLM → LLM → Option R) (s2 : Int) (s3 : Bool) (s4 : Int) (s5 : LI) (s6 : Int) (s7 : LLM) (s8 : LLM) : Option R :=
  bif (decide (s4 < s2)) then
    (f85 L N s5 s6 (4 : Int)).bind fun y14 =>
    w1 s2 s3 s4 y14.1 y14.2.1 y14.2.2 ([] : LM) s7 s8
  else k0_e0 s2 s5 s6 s7 s8
def f88.s0 {R : Type} (L N : Nat) (k0_e0 : Int → LI → Int → LLM → LLM → Option R) (rec0 : Int → Bool → Int → LI → Int → LLM → LLM → Option R) (s2 : Int) (s3 : Bool) (s4 : Int) (s5 : LI) (s6 : Int) (s7 : LLM) (s8 : LLM) : Option R :=
  f88.s0' L N k0_e0 rec0 (fun s15 s16 s17 s18 s19 s20 s21 s22 s23 => f88.l1 L N (fun z24 z25 z26 z27 z28 z29 z30 z31 => f88.p1_e2 L N k0_e0 rec0 z24 z25 z26 z27 z28 z29 z30 z31) L s15 s16 s17 s18 s19 s20 s21 s22 s23) s2 s3 s4 s5 s6 s7 s8
def f88.l0 {R : Type} (L N : Nat) (k0_e0 : Int → LI → Int → LLM → LLM → Option R) : Nat → Int → Bool → Int → LI → Int → LLM → LLM → Option R
  | 0, _, _, _, _, _, _, _ => none
  | n + 1, s2, s3, s4, s5, s6, s7, s8 => f88.s0 L N k0_e0 (f88.l0 L N k0_e0 n) s2 s3 s4 s5 s6 s7 s8
def f88.T0 (s2 : Int) (s3 : Bool) (s4 : Int) (s5 : LI) (s6 : Int) (s7 : LLM) (s8 : LLM) : T := mkT 84 [(0, (.ptr 0 0)), (4, (.ptr 1004 0)), (5, (.ptr 1005 0)), (6, (.tv i64 s2)), (7, (.tv .bool s3)), (8, (.tv i64 s4))] ++ [.ptr 0 0]
def f88.H0 (s2 : Int) (s3 : Bool) (s4 : Int) (s5 : LI) (s6 : Int) (s7 : LLM) (s8 : LLM) : H := [(0, (.box [(.tv (.sl (.int .u8)) s5), (.tv i64 s6)])), (1004, (.box [(.row 1900)])), (1005, (.box [(.row 1901)])), (1900, (.deep 0 (.sl (.st 0)) s7 none)), (1901, (.deep 0 (.sl (.st 0)) s8 none))]
def f88.T0_e0 (z9 : Int) (z10 : LI) (z11 : Int) (z12 : LLM) (z13 : LLM) : T := mkT 84 [(0, (.ptr 0 0)), (4, (.ptr 1004 0)), (5, (.ptr 1005 0)), (6, (.tv i64 z9))] ++ [.ptr 0 0]
def f88.H0_e0 (z9 : Int) (z10 : LI) (z11 : Int) (z12 : LLM) (z13 : LLM) : H := [(0, (.box [(.tv (.sl (.int .u8)) z10), (.tv i64 z11)])), (1004, (.box [(.row 1900)])), (1005, (.box [(.row 1901)])), (1900, (.deep 0 (.sl (.st 0)) z12 none)), (1901, (.deep 0 (.sl (.st 0)) z13 none))]
def f88.p0_e0' {R : Type} (L N : Nat) (k : Graph → LI → Int → Option R) (z9 : Int) (z10 : LI) (z11 : Int) (z12 : LLM) (z13 : LLM) : Option R :=
  (f85 L N z10 z11 (30 : Int)).bind fun y46 =>
  bif (y46.1 == (0 : Int)) then
    bif (decide (0 ≤ (0 : Int)) && decide ((0 : Int) < (z13.length : Int))) then
      bif (decide ((listAt z13 [] (0 : Int).toNat).length + ([(Move.mk (9 : Int) (0 : Int))] : LM).length ≤ lim)) then
        bif (decide (0 ≤ (0 : Int)) && decide ((0 : Int) < (z13.length : Int))) then
          k (Graph.mk (z13.set ((0 : Int).toNat) ((listAt z13 [] (0 : Int).toNat) ++ ([(Move.mk (9 : Int) (0 : Int))] : LM)))) y46.2.1 y46.2.2
        else none
      else none
    else none
  else bif (y46.1 == (1 : Int)) then
    bif (decide (0 ≤ (0 : Int)) && decide ((0 : Int) < (z13.length : Int))) then
      bif (decide ((listAt z13 [] (0 : Int).toNat).length + ([(Move.mk (0 : Int) z9)] : LM).length ≤ lim)) then
        bif (decide (0 ≤ (0 : Int)) && decide ((0 : Int) < (z13.length : Int))) then
          k (Graph.mk (z13.set ((0 : Int).toNat) ((listAt z13 [] (0 : Int).toNat) ++ ([(Move.mk (0 : Int) z9)] : LM)))) y46.2.1 y46.2.2
        else none
      else none
    else none
  else bif (y46.1 == (2 : Int)) then
    k (Graph.mk []) y46.2.1 y46.2.2
  else k (Graph.mk z13) y46.2.1 y46.2.2
def f88.p0_e0 {R : Type} (L N : Nat) (k : Graph → LI → Int → Option R) (z9 : Int) (z10 : LI) (z11 : Int) (z12 : LLM) (z13 : LLM) : Option R :=
  f88.p0_e0' L N k z9 z10 z11 z12 z13
def f88.b' {R : Type} (L N : Nat) (k : Graph → LI → Int → Option R) (w0 : Int → Bool → Int → LI → Int → LLM → LLM → Option R) (c0 : LI) (c1 : Int) (x0 : Int) : Option R :=
  (f85 L N c0 c1 x0).bind fun y0 =>
  (f85 L N y0.2.1 y0.2.2 (2 : Int)).bind fun y1 =>
  w0 (wi ((1 : Int) + y0.1)) (y1.1 == (0 : Int)) (0 : Int) y1.2.1 y1.2.2 ([] : LLM) ([] : LLM)
def f88.b {R : Type} (L N : Nat) (k : Graph → LI → Int → Option R) (c0 : LI) (c1 : Int) (x0 : Int) : Option R :=
  f88.b' L N k (fun s2 s3 s4 s5 s6 s7 s8 => f88.l0 L N (fun z9 z10 z11 z12 z13 => f88.p0_e0 L N k z9 z10 z11 z12 z13) L s2 s3 s4 s5 s6 s7 s8) c0 c1 x0
def f88 (L N : Nat) (c0 : LI) (c1 : Int) (x0 : Int) : Option (Graph × LI × Int) := f88.b L N (fun a0 a1 a2 => some (a0, a1, a2)) c0 c1 x0
def f88.ent (L N : Nat) (args : List AV) (vw : View) (site : Nat) : Ans := match boxD [(.sl (.int .u8)), i64] [i64] vw args with
  | some (o, d0, d, u) => ⟨Graph × LI × Int, f88 L N d0.1 d0.2.1 d.1, fun y => ((.tv (.st 2) y.1), u ++ [(o, some (.box [(.tv (.sl (.int .u8)) y.2.1), (.tv i64 y.2.2)]))], [])⟩
  | none => Ans.no
noncomputable def E88 (L N : Nat) : Env := { P := Tryz.prog, ty := tyOf, Φ := (Φ87 L N), inl := inlT, live := lives, liveX := livesX, L := L, dp := (some 0), prom := promT, heal := healT, ren := renT, fresh := fun s => Nat.beq s 1065 || Nat.beq s 1078 }
noncomputable def f88.c0 : Code := loopAt 0 (codeOf Tryz.f88)
noncomputable def f88.c1 : Code := loopAt 2 f88.c0
def f88.X1_e2 {R : Type} (κ : KX R) := fun z24 z25 z26 z27 z28 z29 z30 z31 => κ (.exit 2) (f88.T1_e2 z24 z25 z26 z27 z28 z29 z30 z31) (f88.H1_e2 z24 z25 z26 z27 z28 z29 z30 z31)
def f88.R1 {R : Type} (rec : KT R) := fun s15 s16 s17 s18 s19 s20 s21 s22 s23 => rec (f88.T1 s15 s16 s17 s18 s19 s20 s21 s22 s23) (f88.H1 s15 s16 s17 s18 s19 s20 s21 s22 s23)
theorem f88.s1_eq {R : Type} (L N : Nat) (κ : KX R) (rec : KT R) (s15 : Int) (s16 : Bool) (s17 : Int) (s18 : Int) (s19 : LI) (s20 : Int) (s21 : LM) (s22 : LLM) (s23 : LLM) :
    evRd (E88 L N) (evCallI (E88 L N) 1 2000) 1000 88 84 2 f88.c1 κ rec (f88.T1 s15 s16 s17 s18 s19 s20 s21 s22 s23) (f88.H1 s15 s16 s17 s18 s19 s20 s21 s22 s23)
    = f88.s1 L N (f88.X1_e2 κ) (f88.R1 rec) s15 s16 s17 s18 s19 s20 s21 s22 s23 := by kernel_rfl
theorem f88.l1_eq {R : Type} (L N : Nat) (κ : KX R) : ∀ (n : Nat) (s15 : Int) (s16 : Bool) (s17 : Int) (s18 : Int) (s19 : LI) (s20 : Int) (s21 : LM) (s22 : LLM) (s23 : LLM),
    evLp (E88 L N) (evCallI (E88 L N) 1 2000) 1000 88 84 2 f88.c1 κ n (f88.T1 s15 s16 s17 s18 s19 s20 s21 s22 s23) (f88.H1 s15 s16 s17 s18 s19 s20 s21 s22 s23)
    = f88.l1 L N (f88.X1_e2 κ) n s15 s16 s17 s18 s19 s20 s21 s22 s23 := by
  intro n
  induction n with
  | zero => intros; rfl
  | succ n ih =>
    intro s15 s16 s17 s18 s19 s20 s21 s22 s23
    rw [evLp_succ, f88.s1_eq]
    delta f88.R1
    simp only [ih]
    rfl
def f88.X0_e0 {R : Type} (κ : KX R) := fun z9 z10 z11 z12 z13 => κ (.exit 0) (f88.T0_e0 z9 z10 z11 z12 z13) (f88.H0_e0 z9 z10 z11 z12 z13)
def f88.R0 {R : Type} (rec : KT R) := fun s2 s3 s4 s5 s6 s7 s8 => rec (f88.T0 s2 s3 s4 s5 s6 s7 s8) (f88.H0 s2 s3 s4 s5 s6 s7 s8)
theorem f88.p1_e2_eq {R : Type} (L N : Nat) (κ : KX R) (rec : KT R) (z24 : Int) (z25 : Bool) (z26 : Int) (z27 : LI) (z28 : Int) (z29 : LM) (z30 : LLM) (z31 : LLM) :
    (contAt (E88 L N) (evCallI (E88 L N) 1 2000) 1000 88 84 2 f88.c0 (rdK (E88 L N) 1000 88 84 0 κ rec)) (.exit 2) (f88.T1_e2 z24 z25 z26 z27 z28 z29 z30 z31) (f88.H1_e2 z24 z25 z26 z27 z28 z29 z30 z31)
    = f88.p1_e2 L N (f88.X0_e0 κ) (f88.R0 rec) z24 z25 z26 z27 z28 z29 z30 z31 := by kernel_rfl
theorem f88.s0_eq {R : Type} (L N : Nat) (κ : KX R) (rec : KT R) (s2 : Int) (s3 : Bool) (s4 : Int) (s5 : LI) (s6 : Int) (s7 : LLM) (s8 : LLM) :
    evRd (E88 L N) (evCallI (E88 L N) 1 2000) 1000 88 84 0 f88.c0 κ rec (f88.T0 s2 s3 s4 s5 s6 s7 s8) (f88.H0 s2 s3 s4 s5 s6 s7 s8)
    = f88.s0 L N (f88.X0_e0 κ) (f88.R0 rec) s2 s3 s4 s5 s6 s7 s8 := by
  refine Eq.trans (b := f88.s0' L N (f88.X0_e0 κ) (f88.R0 rec) (fun s15 s16 s17 s18 s19 s20 s21 s22 s23 => evLp (E88 L N) (evCallI (E88 L N) 1 2000) 1000 88 84 2 f88.c1 (contAt (E88 L N) (evCallI (E88 L N) 1 2000) 1000 88 84 2 f88.c0 (rdK (E88 L N) 1000 88 84 0 κ rec)) L (f88.T1 s15 s16 s17 s18 s19 s20 s21 s22 s23) (f88.H1 s15 s16 s17 s18 s19 s20 s21 s22 s23)) s2 s3 s4 s5 s6 s7 s8) (by kernel_rfl) ?_
  unfold f88.s0
  simp only [f88.l1_eq]
  delta f88.X1_e2
  simp only [f88.p1_e2_eq]
theorem f88.l0_eq {R : Type} (L N : Nat) (κ : KX R) : ∀ (n : Nat) (s2 : Int) (s3 : Bool) (s4 : Int) (s5 : LI) (s6 : Int) (s7 : LLM) (s8 : LLM),
    evLp (E88 L N) (evCallI (E88 L N) 1 2000) 1000 88 84 0 f88.c0 κ n (f88.T0 s2 s3 s4 s5 s6 s7 s8) (f88.H0 s2 s3 s4 s5 s6 s7 s8)
    = f88.l0 L N (f88.X0_e0 κ) n s2 s3 s4 s5 s6 s7 s8 := by
  intro n
  induction n with
  | zero => intros; rfl
  | succ n ih =>
    intro s2 s3 s4 s5 s6 s7 s8
    rw [evLp_succ, f88.s0_eq]
    delta f88.R0
    simp only [ih]
    rfl
theorem f88.p0_e0_eq {R : Type} (L N : Nat) (κ : AV → Dens [(.sl (.int .u8)), i64] → Option R) (z9 : Int) (z10 : LI) (z11 : Int) (z12 : LLM) (z13 : LLM) :
    (contAt (E88 L N) (evCallI (E88 L N) 1 2000) 1000 88 84 0 (codeOf Tryz.f88) (finK (E88 L N) 1000 Tryz.f88 (finM (.one (.st 2)) [(.sl (.int .u8)), i64] κ))) (.exit 0) (f88.T0_e0 z9 z10 z11 z12 z13) (f88.H0_e0 z9 z10 z11 z12 z13)
    = f88.p0_e0 L N (fun a0 a1 a2 => κ (.tv (.st 2) a0) (a1, a2, ())) z9 z10 z11 z12 z13 := by kernel_rfl
theorem f88.b_eq {R : Type} (L N : Nat) (κ : AV → Dens [(.sl (.int .u8)), i64] → Option R) (c0 : LI) (c1 : Int) (x0 : Int) :
    evBody (E88 L N) (evCallI (E88 L N) 1 2000) 1000 88 Tryz.f88 [(.ptr 0 0), (.tv i64 x0)] [.ptr 0 0] [(0, (.box [(.tv (.sl (.int .u8)) c0), (.tv i64 c1)]))] (finM (.one (.st 2)) [(.sl (.int .u8)), i64] κ)
    = f88.b L N (fun a0 a1 a2 => κ (.tv (.st 2) a0) (a1, a2, ())) c0 c1 x0 := by
  refine Eq.trans (b := f88.b' L N (fun a0 a1 a2 => κ (.tv (.st 2) a0) (a1, a2, ())) (fun s2 s3 s4 s5 s6 s7 s8 => evLp (E88 L N) (evCallI (E88 L N) 1 2000) 1000 88 84 0 f88.c0 (contAt (E88 L N) (evCallI (E88 L N) 1 2000) 1000 88 84 0 (codeOf Tryz.f88) (finK (E88 L N) 1000 Tryz.f88 (finM (.one (.st 2)) [(.sl (.int .u8)), i64] κ))) L (f88.T0 s2 s3 s4 s5 s6 s7 s8) (f88.H0 s2 s3 s4 s5 s6 s7 s8)) c0 c1 x0) (by kernel_rfl) ?_
  unfold f88.b
  simp only [f88.l0_eq]
  delta f88.X0_e0
  simp only [f88.p0_e0_eq]
theorem f88.ok (L N : Nat) (hΦ : TellsOk Tryz.prog ((Φ87 L N))) : EntOk Tryz.prog 88 (f88.ent L N) := by
  intro args vw site h
  unfold f88.ent
  split
  · rename_i o d0 d u ha
    intro y hy hs
    obtain ⟨rest, cs, rfl, ho, hd0, hr, hu⟩ := boxD_some ha
    refine call_box (y := y) (dep := 1000) (v' := (.tv (.st 2) y.1)) (d1 := (y.2.1, y.2.2, ())) (E := (E88 L N)) (ts := [(.sl (.int .u8)), i64]) (tr := [i64]) (rs := (.one (.st 2))) (κ := (fun v d => (unR (.one (.st 2)) v).bind fun x => some (x, d.1, d.2.1))) (sound_of hΦ) okP (callI_sound (sound_of hΦ) okP 1 2000) (f := Tryz.f88) rfl hs ho hd0 hr hu ?_ (fun _ _ h => by obtain ⟨x, h1, h2⟩ := unR_bind h; obtain rfl := Option.some.inj h2; exact ⟨h1, rfl⟩) site
    exact (f88.b_eq L N (fun v d => (unR (.one (.st 2)) v).bind fun x => some (x, d.1, d.2.1)) d0.1 d0.2.1 d.1).trans (Eq.trans (b := f88.b L N (fun a0 a1 a2 => some (a0, a1, a2)) d0.1 d0.2.1 d.1) (by kernel_rfl) hy)
  · intro y hy
    cases hy
def Φ88 (L N : Nat) : Tells := (addT (Φ87 L N) 88 (f88.ent L N))
theorem Φ88_ok (L N : Nat) : TellsOk Tryz.prog (Φ88 L N) := addT_ok (Φ87_ok L N) (f88.ok L N (Φ87_ok L N))
def f58.b' {R : Type} (L N : Nat) (k : Graph → LI → Int → Option R) (c0 : LI) (c1 : Int) : Option R :=
  (f85 L N c0 c1 (2 : Int)).bind fun y0 =>
  bif (y0.1 == (0 : Int)) then
    (f86 L N y0.2.1 y0.2.2).bind fun y1 =>
    (f87 L N (Tree.mk y1.1.op y1.1.n y1.1.parts) y1.2.1).bind fun y2 =>
    bif y2.2 then
      k (Graph.mk ((Graph.mk y2.1.moves).moves)) y1.2.2.1 y1.2.2.2
    else (f88 L N y1.2.2.1 y1.2.2.2 (6 : Int)).bind fun y6 =>
    k (Graph.mk y6.1.moves) y6.2.1 y6.2.2
  else (f88 L N y0.2.1 y0.2.2 (6 : Int)).bind fun y7 =>
  k (Graph.mk y7.1.moves) y7.2.1 y7.2.2
def f58.b {R : Type} (L N : Nat) (k : Graph → LI → Int → Option R) (c0 : LI) (c1 : Int) : Option R :=
  f58.b' L N k c0 c1
def f58 (L N : Nat) (c0 : LI) (c1 : Int) : Option (Graph × LI × Int) := f58.b L N (fun a0 a1 a2 => some (a0, a1, a2)) c0 c1
def f58.ent (L N : Nat) (args : List AV) (vw : View) (site : Nat) : Ans := match boxD [(.sl (.int .u8)), i64] [] vw args with
  | some (o, d0, d, u) => ⟨Graph × LI × Int, f58 L N d0.1 d0.2.1, fun y => ((.tv (.st 2) y.1), u ++ [(o, some (.box [(.tv (.sl (.int .u8)) y.2.1), (.tv i64 y.2.2)]))], [])⟩
  | none => Ans.no
noncomputable def E58 (L N : Nat) : Env := { P := Tryz.prog, ty := tyOf, Φ := (Φ88 L N), inl := inlT, live := lives, liveX := livesX, L := L, dp := none, prom := promT, heal := healT, ren := renT }
theorem f58.b_eq {R : Type} (L N : Nat) (κ : AV → Dens [(.sl (.int .u8)), i64] → Option R) (c0 : LI) (c1 : Int) :
    evBody (E58 L N) (evCallI (E58 L N) 1 2000) 1000 58 Tryz.f58 [(.ptr 0 0)] [.ptr 0 0] [(0, (.box [(.tv (.sl (.int .u8)) c0), (.tv i64 c1)]))] (finM (.one (.st 2)) [(.sl (.int .u8)), i64] κ)
    = f58.b L N (fun a0 a1 a2 => κ (.tv (.st 2) a0) (a1, a2, ())) c0 c1 := by kernel_rfl
theorem f58.ok (L N : Nat) (hΦ : TellsOk Tryz.prog ((Φ88 L N))) : EntOk Tryz.prog 58 (f58.ent L N) := by
  intro args vw site h
  unfold f58.ent
  split
  · rename_i o d0 d u ha
    intro y hy hs
    obtain ⟨rest, cs, rfl, ho, hd0, hr, hu⟩ := boxD_some ha
    refine call_box (y := y) (dep := 1000) (v' := (.tv (.st 2) y.1)) (d1 := (y.2.1, y.2.2, ())) (E := (E58 L N)) (ts := [(.sl (.int .u8)), i64]) (tr := []) (rs := (.one (.st 2))) (κ := (fun v d => (unR (.one (.st 2)) v).bind fun x => some (x, d.1, d.2.1))) (sound_of hΦ) okP (callI_sound (sound_of hΦ) okP 1 2000) (f := Tryz.f58) rfl hs ho hd0 hr hu ?_ (fun _ _ h => by obtain ⟨x, h1, h2⟩ := unR_bind h; obtain rfl := Option.some.inj h2; exact ⟨h1, rfl⟩) site
    exact (f58.b_eq L N (fun v d => (unR (.one (.st 2)) v).bind fun x => some (x, d.1, d.2.1)) d0.1 d0.2.1).trans (Eq.trans (b := f58.b L N (fun a0 a1 a2 => some (a0, a1, a2)) d0.1 d0.2.1) (by kernel_rfl) hy)
  · intro y hy
    cases hy
def Φ58 (L N : Nat) : Tells := (addT (Φ88 L N) 58 (f58.ent L N))
theorem Φ58_ok (L N : Nat) : TellsOk Tryz.prog (Φ58 L N) := addT_ok (Φ88_ok L N) (f58.ok L N (Φ88_ok L N))
def f22.b' {R : Type} (L N : Nat) (k : Graph → Option R) (x0 : LI) : Option R :=
  (f57 L N x0).bind fun y0 =>
  (f58 L N y0.1 y0.2).bind fun y1 =>
  k (Graph.mk ((Graph.mk y1.1.moves).moves))
def f22.b {R : Type} (L N : Nat) (k : Graph → Option R) (x0 : LI) : Option R :=
  f22.b' L N k x0
def f22 (L N : Nat) (x0 : LI) : Option (Graph) := f22.b L N some x0
def f22.ent (L N : Nat) := entDa [(.sl (.int .u8))] (.one (.st 2)) fun d => f22 L N d.1
noncomputable def E22 (L N : Nat) : Env := { P := Tryz.prog, ty := tyOf, Φ := (Φ58 L N), inl := inlT, live := lives, liveX := livesX, L := L, dp := none, prom := promT, heal := healT, ren := renT }
theorem f22.b_eq {R : Type} (L N : Nat) (κ : AV → Option R) (x0 : LI) :
    evBody (E22 L N) (evCallI (E22 L N) 1 2000) 1000 22 Tryz.f22 [(.tv (.sl (.int .u8)) x0)] [] [] (finC (.one (.st 2)) κ)
    = f22.b L N (fun a0 => κ (.tv (.st 2) a0)) x0 := by kernel_rfl
theorem f22.ok (L N : Nat) (hΦ : TellsOk Tryz.prog ((Φ58 L N))) : EntOk Tryz.prog 22 (f22.ent L N) := entDa_ok (E := (E22 L N)) (dep := 1000) (f := Tryz.f22) (sound_of hΦ) okP (callI_sound (sound_of hΦ) okP 1 2000) rfl fun d _ hy => (f22.b_eq L N (unR (.one (.st 2))) d.1).trans (Eq.trans (b := f22.b L N some d.1) (by kernel_rfl) hy)
def Φ22 (L N : Nat) : Tells := (addT (Φ58 L N) 22 (f22.ent L N))
theorem Φ22_ok (L N : Nat) : TellsOk Tryz.prog (Φ22 L N) := addT_ok (Φ58_ok L N) (f22.ok L N (Φ58_ok L N))
def f9.s1' {R : Type} (L N : Nat) (k1_e2 : Int → LLM → Option R) (k1_r : Bool → Int → LLM → Option R) (rec1 : Int → Int → LLM → Option R) (s3 : Int) (s4 : Int) (s5 : LLM) : Option R :=
  bif (decide (0 ≤ s3) && decide (s3 < (s5.length : Int))) then
    bif (decide (s4 < ((listAt s5 [] s3.toNat).length : Int))) then
      bif (decide (0 ≤ s3) && decide (s3 < (s5.length : Int))) then
        bif (decide (0 ≤ s4) && decide (s4 < ((listAt s5 [] s3.toNat).length : Int))) then
          (f33 L N ((listAt (listAt s5 [] s3.toNat) (Ty.dflt (.st 0)) s4.toNat).act)).bind fun y8 =>
          bif (!y8) then
            k1_r false s3 s5
          else (f32 L N ((listAt (listAt s5 [] s3.toNat) (Ty.dflt (.st 0)) s4.toNat).to) (0 : Int) (wi ((s5.length : Int) - (1 : Int)))).bind fun y9 =>
          bif (!y9) then
            k1_r false s3 s5
          else bif (decide (s4 > (0 : Int))) then
            bif (decide (0 ≤ s3) && decide (s3 < (s5.length : Int))) then
              bif (decide (0 ≤ (wi (s4 - (1 : Int)))) && decide ((wi (s4 - (1 : Int))) < ((listAt s5 [] s3.toNat).length : Int))) then
                (f34 L N (listAt (listAt s5 [] s3.toNat) (Ty.dflt (.st 0)) (wi (s4 - (1 : Int))).toNat) (Move.mk ((listAt (listAt s5 [] s3.toNat) (Ty.dflt (.st 0)) s4.toNat).act) ((listAt (listAt s5 [] s3.toNat) (Ty.dflt (.st 0)) s4.toNat).to))).bind fun y10 =>
                bif (!y10) then
                  k1_r false s3 s5
                else rec1 s3 (wi (s4 + (1 : Int))) s5
              else none
            else none
          else rec1 s3 (wi (s4 + (1 : Int))) s5
        else none
      else none
    else k1_e2 s3 s5
  else none
def f9.s1 {R : Type} (L N : Nat) (k1_e2 : Int → LLM → Option R) (k1_r : Bool → Int → LLM → Option R) (rec1 : Int → Int → LLM → Option R) (s3 : Int) (s4 : Int) (s5 : LLM) : Option R :=
  f9.s1' L N k1_e2 k1_r rec1 s3 s4 s5
def f9.l1 {R : Type} (L N : Nat) (k1_e2 : Int → LLM → Option R) (k1_r : Bool → Int → LLM → Option R) : Nat → Int → Int → LLM → Option R
  | 0, _, _, _ => none
  | n + 1, s3, s4, s5 => f9.s1 L N k1_e2 k1_r (f9.l1 L N k1_e2 k1_r n) s3 s4 s5
def f9.T1 (s3 : Int) (s4 : Int) (s5 : LLM) : T := mkT 68 [(1, (.ptr 1001 0)), (3, (.tv i64 s3)), (4, (.tv i64 s4))]
def f9.H1 (s3 : Int) (s4 : Int) (s5 : LLM) : H := [(1001, (.box [(.tv (.sl (.sl (.st 0))) s5)]))]
def f9.T1_e2 (z6 : Int) (z7 : LLM) : T := mkT 68 [(1, (.ptr 1001 0)), (3, (.tv i64 z6))]
def f9.H1_e2 (z6 : Int) (z7 : LLM) : H := [(1001, (.box [(.tv (.sl (.sl (.st 0))) z7)]))]
def f9.T1_r (z15 : Bool) (z16 : Int) (z17 : LLM) : T := mkT 68 [(1, (.ptr 1001 0)), (2, (.tv .bool z15)), (3, (.tv i64 z16))]
def f9.H1_r (z15 : Bool) (z16 : Int) (z17 : LLM) : H := [(1001, (.box [(.tv (.sl (.sl (.st 0))) z17)]))]
def f9.p1_e2' {R : Type} (L N : Nat) (k0_e0 : Option R) (k0_r : Bool → Option R) (rec0 : Int → LLM → Option R) (z6 : Int) (z7 : LLM) : Option R :=
  rec0 (wi (z6 + (1 : Int))) z7
def f9.p1_e2 {R : Type} (L N : Nat) (k0_e0 : Option R) (k0_r : Bool → Option R) (rec0 : Int → LLM → Option R) (z6 : Int) (z7 : LLM) : Option R :=
  f9.p1_e2' L N k0_e0 k0_r rec0 z6 z7
def f9.p1_r' {R : Type} (L N : Nat) (k0_e0 : Option R) (k0_r : Bool → Option R) (rec0 : Int → LLM → Option R) (z15 : Bool) (z16 : Int) (z17 : LLM) : Option R :=
  k0_r z15
def f9.p1_r {R : Type} (L N : Nat) (k0_e0 : Option R) (k0_r : Bool → Option R) (rec0 : Int → LLM → Option R) (z15 : Bool) (z16 : Int) (z17 : LLM) : Option R :=
  f9.p1_r' L N k0_e0 k0_r rec0 z15 z16 z17
def f9.s0' {R : Type} (L N : Nat) (k0_e0 : Option R) (k0_r : Bool → Option R) (rec0 : Int → LLM → Option R) (w1 : Int → Int → LLM → Option R) (s1 : Int) (s2 : LLM) : Option R :=
  bif (decide (s1 < (s2.length : Int))) then
    w1 s1 (0 : Int) s2
  else k0_e0
def f9.s0 {R : Type} (L N : Nat) (k0_e0 : Option R) (k0_r : Bool → Option R) (rec0 : Int → LLM → Option R) (s1 : Int) (s2 : LLM) : Option R :=
  f9.s0' L N k0_e0 k0_r rec0 (fun s3 s4 s5 => f9.l1 L N (fun z6 z7 => f9.p1_e2 L N k0_e0 k0_r rec0 z6 z7) (fun z15 z16 z17 => f9.p1_r L N k0_e0 k0_r rec0 z15 z16 z17) L s3 s4 s5) s1 s2
def f9.l0 {R : Type} (L N : Nat) (k0_e0 : Option R) (k0_r : Bool → Option R) : Nat → Int → LLM → Option R
  | 0, _, _ => none
  | n + 1, s1, s2 => f9.s0 L N k0_e0 k0_r (f9.l0 L N k0_e0 k0_r n) s1 s2
def f9.T0 (s1 : Int) (s2 : LLM) : T := mkT 68 [(1, (.ptr 1001 0)), (3, (.tv i64 s1))]
def f9.H0 (s1 : Int) (s2 : LLM) : H := [(1001, (.box [(.tv (.sl (.sl (.st 0))) s2)]))]
def f9.T0_e0 : T := mkT 68 []
def f9.H0_e0 : H := []
def f9.T0_r (z21 : Bool) : T := mkT 68 [(2, (.tv .bool z21))]
def f9.H0_r (z21 : Bool) : H := []
def f9.p0_e0' {R : Type} (L N : Nat) (k : Bool → Option R) : Option R :=
  k true
def f9.p0_e0 {R : Type} (L N : Nat) (k : Bool → Option R) : Option R :=
  f9.p0_e0' L N k
def f9.p0_r' {R : Type} (L N : Nat) (k : Bool → Option R) (z21 : Bool) : Option R :=
  k z21
def f9.p0_r {R : Type} (L N : Nat) (k : Bool → Option R) (z21 : Bool) : Option R :=
  f9.p0_r' L N k z21
def f9.b' {R : Type} (L N : Nat) (k : Bool → Option R) (w0 : Int → LLM → Option R) (x0 : Graph) : Option R :=
  (f32 L N (x0.moves.length : Int) (1 : Int) (60 : Int)).bind fun y0 =>
  bif (!y0) then
    k false
  else w0 (0 : Int) x0.moves
def f9.b {R : Type} (L N : Nat) (k : Bool → Option R) (x0 : Graph) : Option R :=
  f9.b' L N k (fun s1 s2 => f9.l0 L N (f9.p0_e0 L N k) (fun z21 => f9.p0_r L N k z21) L s1 s2) x0
def f9 (L N : Nat) (x0 : Graph) : Option (Bool) := f9.b L N some x0
def f9.ent (L N : Nat) := entRo [(.st 2)] (.one .bool) fun d => f9 L N d.1
noncomputable def E9 (L N : Nat) : Env := { P := Tryz.prog, ty := tyOf, Φ := (Φ22 L N), inl := inlT, live := lives, liveX := livesX, L := L, dp := none, prom := promT, heal := healT, ren := renT }
noncomputable def f9.c0 : Code := loopAt 0 (codeOf Tryz.f9)
noncomputable def f9.c1 : Code := loopAt 2 f9.c0
def f9.X1_e2 {R : Type} (κ : KX R) := fun z6 z7 => κ (.exit 2) (f9.T1_e2 z6 z7) (f9.H1_e2 z6 z7)
def f9.X1_r {R : Type} (κ : KX R) := fun z15 z16 z17 => κ .ret (f9.T1_r z15 z16 z17) (f9.H1_r z15 z16 z17)
def f9.R1 {R : Type} (rec : KT R) := fun s3 s4 s5 => rec (f9.T1 s3 s4 s5) (f9.H1 s3 s4 s5)
theorem f9.s1_eq {R : Type} (L N : Nat) (κ : KX R) (rec : KT R) (s3 : Int) (s4 : Int) (s5 : LLM) :
    evRd (E9 L N) (evCallI (E9 L N) 1 2000) 1000 9 68 2 f9.c1 κ rec (f9.T1 s3 s4 s5) (f9.H1 s3 s4 s5)
    = f9.s1 L N (f9.X1_e2 κ) (f9.X1_r κ) (f9.R1 rec) s3 s4 s5 := by kernel_rfl
theorem f9.l1_eq {R : Type} (L N : Nat) (κ : KX R) : ∀ (n : Nat) (s3 : Int) (s4 : Int) (s5 : LLM),
    evLp (E9 L N) (evCallI (E9 L N) 1 2000) 1000 9 68 2 f9.c1 κ n (f9.T1 s3 s4 s5) (f9.H1 s3 s4 s5)
    = f9.l1 L N (f9.X1_e2 κ) (f9.X1_r κ) n s3 s4 s5 := by
  intro n
  induction n with
  | zero => intros; rfl
  | succ n ih =>
    intro s3 s4 s5
    rw [evLp_succ, f9.s1_eq]
    delta f9.R1
    simp only [ih]
    rfl
def f9.X0_e0 {R : Type} (κ : KX R) := κ (.exit 0) f9.T0_e0 f9.H0_e0
def f9.X0_r {R : Type} (κ : KX R) := fun z21 => κ .ret (f9.T0_r z21) (f9.H0_r z21)
def f9.R0 {R : Type} (rec : KT R) := fun s1 s2 => rec (f9.T0 s1 s2) (f9.H0 s1 s2)
theorem f9.p1_e2_eq {R : Type} (L N : Nat) (κ : KX R) (rec : KT R) (z6 : Int) (z7 : LLM) :
    (contAt (E9 L N) (evCallI (E9 L N) 1 2000) 1000 9 68 2 f9.c0 (rdK (E9 L N) 1000 9 68 0 κ rec)) (.exit 2) (f9.T1_e2 z6 z7) (f9.H1_e2 z6 z7)
    = f9.p1_e2 L N (f9.X0_e0 κ) (f9.X0_r κ) (f9.R0 rec) z6 z7 := by kernel_rfl
theorem f9.p1_r_eq {R : Type} (L N : Nat) (κ : KX R) (rec : KT R) (z15 : Bool) (z16 : Int) (z17 : LLM) :
    (contAt (E9 L N) (evCallI (E9 L N) 1 2000) 1000 9 68 2 f9.c0 (rdK (E9 L N) 1000 9 68 0 κ rec)) .ret (f9.T1_r z15 z16 z17) (f9.H1_r z15 z16 z17)
    = f9.p1_r L N (f9.X0_e0 κ) (f9.X0_r κ) (f9.R0 rec) z15 z16 z17 := by kernel_rfl
theorem f9.s0_eq {R : Type} (L N : Nat) (κ : KX R) (rec : KT R) (s1 : Int) (s2 : LLM) :
    evRd (E9 L N) (evCallI (E9 L N) 1 2000) 1000 9 68 0 f9.c0 κ rec (f9.T0 s1 s2) (f9.H0 s1 s2)
    = f9.s0 L N (f9.X0_e0 κ) (f9.X0_r κ) (f9.R0 rec) s1 s2 := by
  refine Eq.trans (b := f9.s0' L N (f9.X0_e0 κ) (f9.X0_r κ) (f9.R0 rec) (fun s3 s4 s5 => evLp (E9 L N) (evCallI (E9 L N) 1 2000) 1000 9 68 2 f9.c1 (contAt (E9 L N) (evCallI (E9 L N) 1 2000) 1000 9 68 2 f9.c0 (rdK (E9 L N) 1000 9 68 0 κ rec)) L (f9.T1 s3 s4 s5) (f9.H1 s3 s4 s5)) s1 s2) (by kernel_rfl) ?_
  unfold f9.s0
  simp only [f9.l1_eq]
  delta f9.X1_e2 f9.X1_r
  simp only [f9.p1_e2_eq, f9.p1_r_eq]
theorem f9.l0_eq {R : Type} (L N : Nat) (κ : KX R) : ∀ (n : Nat) (s1 : Int) (s2 : LLM),
    evLp (E9 L N) (evCallI (E9 L N) 1 2000) 1000 9 68 0 f9.c0 κ n (f9.T0 s1 s2) (f9.H0 s1 s2)
    = f9.l0 L N (f9.X0_e0 κ) (f9.X0_r κ) n s1 s2 := by
  intro n
  induction n with
  | zero => intros; rfl
  | succ n ih =>
    intro s1 s2
    rw [evLp_succ, f9.s0_eq]
    delta f9.R0
    simp only [ih]
    rfl
theorem f9.p0_e0_eq {R : Type} (L N : Nat) (κ : AV → Option R) :
    (contAt (E9 L N) (evCallI (E9 L N) 1 2000) 1000 9 68 0 (codeOf Tryz.f9) (finK (E9 L N) 1000 Tryz.f9 (finC (.one .bool) κ))) (.exit 0) f9.T0_e0 f9.H0_e0
    = f9.p0_e0 L N (fun a0 => κ (.tv .bool a0)) := by kernel_rfl
theorem f9.p0_r_eq {R : Type} (L N : Nat) (κ : AV → Option R) (z21 : Bool) :
    (contAt (E9 L N) (evCallI (E9 L N) 1 2000) 1000 9 68 0 (codeOf Tryz.f9) (finK (E9 L N) 1000 Tryz.f9 (finC (.one .bool) κ))) .ret (f9.T0_r z21) (f9.H0_r z21)
    = f9.p0_r L N (fun a0 => κ (.tv .bool a0)) z21 := by kernel_rfl
theorem f9.b_eq {R : Type} (L N : Nat) (κ : AV → Option R) (x0 : Graph) :
    evBody (E9 L N) (evCallI (E9 L N) 1 2000) 1000 9 Tryz.f9 [(.tv (.st 2) x0)] [] [] (finC (.one .bool) κ)
    = f9.b L N (fun a0 => κ (.tv .bool a0)) x0 := by
  refine Eq.trans (b := f9.b' L N (fun a0 => κ (.tv .bool a0)) (fun s1 s2 => evLp (E9 L N) (evCallI (E9 L N) 1 2000) 1000 9 68 0 f9.c0 (contAt (E9 L N) (evCallI (E9 L N) 1 2000) 1000 9 68 0 (codeOf Tryz.f9) (finK (E9 L N) 1000 Tryz.f9 (finC (.one .bool) κ))) L (f9.T0 s1 s2) (f9.H0 s1 s2)) x0) (by kernel_rfl) ?_
  unfold f9.b
  simp only [f9.l0_eq]
  delta f9.X0_e0 f9.X0_r
  simp only [f9.p0_e0_eq, f9.p0_r_eq]
theorem f9.ok (L N : Nat) (hΦ : TellsOk Tryz.prog ((Φ22 L N))) : EntOk Tryz.prog 9 (f9.ent L N) := entRo_ok (E := (E9 L N)) (dep := 1000) (f := Tryz.f9) (sound_of hΦ) okP (callI_sound (sound_of hΦ) okP 1 2000) rfl rfl fun d _ hy => (f9.b_eq L N (unR (.one .bool)) d.1).trans (Eq.trans (b := f9.b L N some d.1) (by kernel_rfl) hy)
def Φ9 (L N : Nat) : Tells := (addT (Φ22 L N) 9 (f9.ent L N))
theorem Φ9_ok (L N : Nat) : TellsOk Tryz.prog (Φ9 L N) := addT_ok (Φ22_ok L N) (f9.ok L N (Φ22_ok L N))
def f89.j0' {R : Type} (L N : Nat) (k2_e4 : Bool → Int → LLM → LB → Option R) (rec2 : Bool → Int → Int → LLM → LB → Option R) (v20 : Bool) (v21 : Int) (v22 : Int) (v23 : Bool) (v24 : LLM) (v25 : Int) (v26 : Int) (v27 : LB) : Option R :=
  bif v23 then
    bif (decide (0 ≤ v26) && decide (v26 < (v27.length : Int))) then
      rec2 true v21 (wi (v22 + (1 : Int))) v24 (v27.set v26.toNat true)
    else none
  else rec2 v20 v21 (wi (v22 + (1 : Int))) v24 v27
def f89.s2' {R : Type} (L N : Nat) (k2_e4 : Bool → Int → LLM → LB → Option R) (rec2 : Bool → Int → Int → LLM → LB → Option R) (s11 : Bool) (s12 : Int) (s13 : Int) (s14 : LLM) (s15 : LB) : Option R :=
  bif (decide (0 ≤ s12) && decide (s12 < (s14.length : Int))) then
    bif (decide (s13 < ((listAt s14 [] s12.toNat).length : Int))) then
      bif (decide (0 ≤ s12) && decide (s12 < (s14.length : Int))) then
        bif (decide (0 ≤ s13) && decide (s13 < ((listAt s14 [] s12.toNat).length : Int))) then
          bif (decide (0 ≤ s12) && decide (s12 < (s15.length : Int))) then
            bif (listAt s15 false s12.toNat) then
              bif ((listAt (listAt s14 [] s12.toNat) (Ty.dflt (.st 0)) s13.toNat).act == (0 : Int)) then
                bif (decide (0 ≤ (listAt (listAt s14 [] s12.toNat) (Ty.dflt (.st 0)) s13.toNat).to) && decide ((listAt (listAt s14 [] s12.toNat) (Ty.dflt (.st 0)) s13.toNat).to < (s15.length : Int))) then
                  f89.j0' L N k2_e4 rec2 s11 s12 s13 (!(listAt s15 false ((listAt (listAt s14 [] s12.toNat) (Ty.dflt (.st 0)) s13.toNat).to).toNat)) s14 ((listAt (listAt s14 [] s12.toNat) (Ty.dflt (.st 0)) s13.toNat).act) ((listAt (listAt s14 [] s12.toNat) (Ty.dflt (.st 0)) s13.toNat).to) s15
                else none
              else f89.j0' L N k2_e4 rec2 s11 s12 s13 false s14 ((listAt (listAt s14 [] s12.toNat) (Ty.dflt (.st 0)) s13.toNat).act) ((listAt (listAt s14 [] s12.toNat) (Ty.dflt (.st 0)) s13.toNat).to) s15
            else f89.j0' L N k2_e4 rec2 s11 s12 s13 false s14 ((listAt (listAt s14 [] s12.toNat) (Ty.dflt (.st 0)) s13.toNat).act) ((listAt (listAt s14 [] s12.toNat) (Ty.dflt (.st 0)) s13.toNat).to) s15
          else none
        else none
      else none
    else k2_e4 s11 s12 s14 s15
  else none
def f89.s2 {R : Type} (L N : Nat) (k2_e4 : Bool → Int → LLM → LB → Option R) (rec2 : Bool → Int → Int → LLM → LB → Option R) (s11 : Bool) (s12 : Int) (s13 : Int) (s14 : LLM) (s15 : LB) : Option R :=
  f89.s2' L N k2_e4 rec2 s11 s12 s13 s14 s15
def f89.l2 {R : Type} (L N : Nat) (k2_e4 : Bool → Int → LLM → LB → Option R) : Nat → Bool → Int → Int → LLM → LB → Option R
  | 0, _, _, _, _, _ => none
  | n + 1, s11, s12, s13, s14, s15 => f89.s2 L N k2_e4 (f89.l2 L N k2_e4 n) s11 s12 s13 s14 s15
def f89.T2 (s11 : Bool) (s12 : Int) (s13 : Int) (s14 : LLM) (s15 : LB) : T := mkT 60 [(2, (.ptr 1002 0)), (5, (.row 1010)), (6, (.tv .bool s11)), (7, (.tv i64 s12)), (8, (.tv i64 s13))]
def f89.H2 (s11 : Bool) (s12 : Int) (s13 : Int) (s14 : LLM) (s15 : LB) : H := [(1002, (.box [(.tv (.sl (.sl (.st 0))) s14)])), (1010, (.row 4 .bool s15))]
def f89.T2_e4 (z16 : Bool) (z17 : Int) (z18 : LLM) (z19 : LB) : T := mkT 60 [(2, (.ptr 1002 0)), (5, (.row 1010)), (6, (.tv .bool z16)), (7, (.tv i64 z17))]
def f89.H2_e4 (z16 : Bool) (z17 : Int) (z18 : LLM) (z19 : LB) : H := [(1002, (.box [(.tv (.sl (.sl (.st 0))) z18)])), (1010, (.row 4 .bool z19))]
def f89.p2_e4' {R : Type} (L N : Nat) (k1_e2 : Bool → LLM → LB → Option R) (rec1 : Bool → Int → LLM → LB → Option R) (z16 : Bool) (z17 : Int) (z18 : LLM) (z19 : LB) : Option R :=
  rec1 z16 (wi (z17 + (1 : Int))) z18 z19
def f89.p2_e4 {R : Type} (L N : Nat) (k1_e2 : Bool → LLM → LB → Option R) (rec1 : Bool → Int → LLM → LB → Option R) (z16 : Bool) (z17 : Int) (z18 : LLM) (z19 : LB) : Option R :=
  f89.p2_e4' L N k1_e2 rec1 z16 z17 z18 z19
def f89.s1' {R : Type} (L N : Nat) (k1_e2 : Bool → LLM → LB → Option R) (rec1 : Bool → Int → LLM → LB → Option R) (w2 : Bool → Int → Int → LLM → LB → Option R) (s4 : Bool) (s5 : Int) (s6 : LLM) (s7 : LB) : Option R :=
  bif (decide (s5 < (s7.length : Int))) then
    w2 s4 s5 (0 : Int) s6 s7
  else k1_e2 s4 s6 s7
def f89.s1 {R : Type} (L N : Nat) (k1_e2 : Bool → LLM → LB → Option R) (rec1 : Bool → Int → LLM → LB → Option R) (s4 : Bool) (s5 : Int) (s6 : LLM) (s7 : LB) : Option R :=
  f89.s1' L N k1_e2 rec1 (fun s11 s12 s13 s14 s15 => f89.l2 L N (fun z16 z17 z18 z19 => f89.p2_e4 L N k1_e2 rec1 z16 z17 z18 z19) L s11 s12 s13 s14 s15) s4 s5 s6 s7
def f89.l1 {R : Type} (L N : Nat) (k1_e2 : Bool → LLM → LB → Option R) : Nat → Bool → Int → LLM → LB → Option R
  | 0, _, _, _, _ => none
  | n + 1, s4, s5, s6, s7 => f89.s1 L N k1_e2 (f89.l1 L N k1_e2 n) s4 s5 s6 s7
def f89.T1 (s4 : Bool) (s5 : Int) (s6 : LLM) (s7 : LB) : T := mkT 60 [(2, (.ptr 1002 0)), (5, (.row 1010)), (6, (.tv .bool s4)), (7, (.tv i64 s5))]
def f89.H1 (s4 : Bool) (s5 : Int) (s6 : LLM) (s7 : LB) : H := [(1002, (.box [(.tv (.sl (.sl (.st 0))) s6)])), (1010, (.row 4 .bool s7))]
def f89.T1_e2 (z8 : Bool) (z9 : LLM) (z10 : LB) : T := mkT 60 [(2, (.ptr 1002 0)), (5, (.row 1010)), (6, (.tv .bool z8))]
def f89.H1_e2 (z8 : Bool) (z9 : LLM) (z10 : LB) : H := [(1002, (.box [(.tv (.sl (.sl (.st 0))) z9)])), (1010, (.row 4 .bool z10))]
def f89.p1_e2' {R : Type} (L N : Nat) (k0_e0 : LB → Option R) (rec0 : Bool → LLM → LB → Option R) (z8 : Bool) (z9 : LLM) (z10 : LB) : Option R :=
  rec0 z8 z9 z10
def f89.p1_e2 {R : Type} (L N : Nat) (k0_e0 : LB → Option R) (rec0 : Bool → LLM → LB → Option R) (z8 : Bool) (z9 : LLM) (z10 : LB) : Option R :=
  f89.p1_e2' L N k0_e0 rec0 z8 z9 z10
def f89.s0' {R : Type} (L N : Nat) (k0_e0 : LB → Option R) (rec0 : Bool → LLM → LB → Option R) (w1 : Bool → Int → LLM → LB → Option R) (s0 : Bool) (s1 : LLM) (s2 : LB) : Option R :=
  bif s0 then
    w1 false (0 : Int) s1 s2
  else k0_e0 s2
def f89.s0 {R : Type} (L N : Nat) (k0_e0 : LB → Option R) (rec0 : Bool → LLM → LB → Option R) (s0 : Bool) (s1 : LLM) (s2 : LB) : Option R :=
  f89.s0' L N k0_e0 rec0 (fun s4 s5 s6 s7 => f89.l1 L N (fun z8 z9 z10 => f89.p1_e2 L N k0_e0 rec0 z8 z9 z10) L s4 s5 s6 s7) s0 s1 s2
def f89.l0 {R : Type} (L N : Nat) (k0_e0 : LB → Option R) : Nat → Bool → LLM → LB → Option R
  | 0, _, _, _ => none
  | n + 1, s0, s1, s2 => f89.s0 L N k0_e0 (f89.l0 L N k0_e0 n) s0 s1 s2
def f89.T0 (s0 : Bool) (s1 : LLM) (s2 : LB) : T := mkT 60 [(2, (.ptr 1002 0)), (5, (.row 1010)), (6, (.tv .bool s0))]
def f89.H0 (s0 : Bool) (s1 : LLM) (s2 : LB) : H := [(1002, (.box [(.tv (.sl (.sl (.st 0))) s1)])), (1010, (.row 4 .bool s2))]
def f89.T0_e0 (z3 : LB) : T := mkT 60 [(5, (.row 1010))]
def f89.H0_e0 (z3 : LB) : H := [(1010, (.row 4 .bool z3))]
def f89.p0_e0' {R : Type} (L N : Nat) (k : LB → Option R) (z3 : LB) : Option R :=
  k z3
def f89.p0_e0 {R : Type} (L N : Nat) (k : LB → Option R) (z3 : LB) : Option R :=
  f89.p0_e0' L N k z3
def f89.b' {R : Type} (L N : Nat) (k : LB → Option R) (w0 : Bool → LLM → LB → Option R) (x0 : Graph) (x1 : LB) : Option R :=
  bif (decide (([] : LB).length + x1.length ≤ lim)) then
    w0 true x0.moves (([] : LB) ++ x1)
  else none
def f89.b {R : Type} (L N : Nat) (k : LB → Option R) (x0 : Graph) (x1 : LB) : Option R :=
  f89.b' L N k (fun s0 s1 s2 => f89.l0 L N (fun z3 => f89.p0_e0 L N k z3) L s0 s1 s2) x0 x1
def f89 (L N : Nat) (x0 : Graph) (x1 : LB) : Option (LB) := f89.b L N some x0 x1
def f89.ent (L N : Nat) := entDa [(.st 2), (.sl .bool)] (.one (.sl .bool)) fun d => f89 L N d.1 d.2.1
noncomputable def E89 (L N : Nat) : Env := { P := Tryz.prog, ty := tyOf, Φ := (Φ9 L N), inl := inlT, live := lives, liveX := livesX, L := L, dp := none, prom := promT, heal := healT, ren := renT }
noncomputable def f89.c0 : Code := loopAt 0 (codeOf Tryz.f89)
noncomputable def f89.c1 : Code := loopAt 2 f89.c0
noncomputable def f89.c2 : Code := loopAt 4 f89.c1
def f89.X2_e4 {R : Type} (κ : KX R) := fun z16 z17 z18 z19 => κ (.exit 4) (f89.T2_e4 z16 z17 z18 z19) (f89.H2_e4 z16 z17 z18 z19)
def f89.R2 {R : Type} (rec : KT R) := fun s11 s12 s13 s14 s15 => rec (f89.T2 s11 s12 s13 s14 s15) (f89.H2 s11 s12 s13 s14 s15)
theorem f89.s2_eq {R : Type} (L N : Nat) (κ : KX R) (rec : KT R) (s11 : Bool) (s12 : Int) (s13 : Int) (s14 : LLM) (s15 : LB) :
    evRd (E89 L N) (evCallI (E89 L N) 1 2000) 1000 89 60 4 f89.c2 κ rec (f89.T2 s11 s12 s13 s14 s15) (f89.H2 s11 s12 s13 s14 s15)
    = f89.s2 L N (f89.X2_e4 κ) (f89.R2 rec) s11 s12 s13 s14 s15 := by kernel_rfl
theorem f89.l2_eq {R : Type} (L N : Nat) (κ : KX R) : ∀ (n : Nat) (s11 : Bool) (s12 : Int) (s13 : Int) (s14 : LLM) (s15 : LB),
    evLp (E89 L N) (evCallI (E89 L N) 1 2000) 1000 89 60 4 f89.c2 κ n (f89.T2 s11 s12 s13 s14 s15) (f89.H2 s11 s12 s13 s14 s15)
    = f89.l2 L N (f89.X2_e4 κ) n s11 s12 s13 s14 s15 := by
  intro n
  induction n with
  | zero => intros; rfl
  | succ n ih =>
    intro s11 s12 s13 s14 s15
    rw [evLp_succ, f89.s2_eq]
    delta f89.R2
    simp only [ih]
    rfl
def f89.X1_e2 {R : Type} (κ : KX R) := fun z8 z9 z10 => κ (.exit 2) (f89.T1_e2 z8 z9 z10) (f89.H1_e2 z8 z9 z10)
def f89.R1 {R : Type} (rec : KT R) := fun s4 s5 s6 s7 => rec (f89.T1 s4 s5 s6 s7) (f89.H1 s4 s5 s6 s7)
theorem f89.p2_e4_eq {R : Type} (L N : Nat) (κ : KX R) (rec : KT R) (z16 : Bool) (z17 : Int) (z18 : LLM) (z19 : LB) :
    (contAt (E89 L N) (evCallI (E89 L N) 1 2000) 1000 89 60 4 f89.c1 (rdK (E89 L N) 1000 89 60 2 κ rec)) (.exit 4) (f89.T2_e4 z16 z17 z18 z19) (f89.H2_e4 z16 z17 z18 z19)
    = f89.p2_e4 L N (f89.X1_e2 κ) (f89.R1 rec) z16 z17 z18 z19 := by kernel_rfl
theorem f89.s1_eq {R : Type} (L N : Nat) (κ : KX R) (rec : KT R) (s4 : Bool) (s5 : Int) (s6 : LLM) (s7 : LB) :
    evRd (E89 L N) (evCallI (E89 L N) 1 2000) 1000 89 60 2 f89.c1 κ rec (f89.T1 s4 s5 s6 s7) (f89.H1 s4 s5 s6 s7)
    = f89.s1 L N (f89.X1_e2 κ) (f89.R1 rec) s4 s5 s6 s7 := by
  refine Eq.trans (b := f89.s1' L N (f89.X1_e2 κ) (f89.R1 rec) (fun s11 s12 s13 s14 s15 => evLp (E89 L N) (evCallI (E89 L N) 1 2000) 1000 89 60 4 f89.c2 (contAt (E89 L N) (evCallI (E89 L N) 1 2000) 1000 89 60 4 f89.c1 (rdK (E89 L N) 1000 89 60 2 κ rec)) L (f89.T2 s11 s12 s13 s14 s15) (f89.H2 s11 s12 s13 s14 s15)) s4 s5 s6 s7) (by kernel_rfl) ?_
  unfold f89.s1
  simp only [f89.l2_eq]
  delta f89.X2_e4
  simp only [f89.p2_e4_eq]
theorem f89.l1_eq {R : Type} (L N : Nat) (κ : KX R) : ∀ (n : Nat) (s4 : Bool) (s5 : Int) (s6 : LLM) (s7 : LB),
    evLp (E89 L N) (evCallI (E89 L N) 1 2000) 1000 89 60 2 f89.c1 κ n (f89.T1 s4 s5 s6 s7) (f89.H1 s4 s5 s6 s7)
    = f89.l1 L N (f89.X1_e2 κ) n s4 s5 s6 s7 := by
  intro n
  induction n with
  | zero => intros; rfl
  | succ n ih =>
    intro s4 s5 s6 s7
    rw [evLp_succ, f89.s1_eq]
    delta f89.R1
    simp only [ih]
    rfl
def f89.X0_e0 {R : Type} (κ : KX R) := fun z3 => κ (.exit 0) (f89.T0_e0 z3) (f89.H0_e0 z3)
def f89.R0 {R : Type} (rec : KT R) := fun s0 s1 s2 => rec (f89.T0 s0 s1 s2) (f89.H0 s0 s1 s2)
theorem f89.p1_e2_eq {R : Type} (L N : Nat) (κ : KX R) (rec : KT R) (z8 : Bool) (z9 : LLM) (z10 : LB) :
    (contAt (E89 L N) (evCallI (E89 L N) 1 2000) 1000 89 60 2 f89.c0 (rdK (E89 L N) 1000 89 60 0 κ rec)) (.exit 2) (f89.T1_e2 z8 z9 z10) (f89.H1_e2 z8 z9 z10)
    = f89.p1_e2 L N (f89.X0_e0 κ) (f89.R0 rec) z8 z9 z10 := by kernel_rfl
theorem f89.s0_eq {R : Type} (L N : Nat) (κ : KX R) (rec : KT R) (s0 : Bool) (s1 : LLM) (s2 : LB) :
    evRd (E89 L N) (evCallI (E89 L N) 1 2000) 1000 89 60 0 f89.c0 κ rec (f89.T0 s0 s1 s2) (f89.H0 s0 s1 s2)
    = f89.s0 L N (f89.X0_e0 κ) (f89.R0 rec) s0 s1 s2 := by
  refine Eq.trans (b := f89.s0' L N (f89.X0_e0 κ) (f89.R0 rec) (fun s4 s5 s6 s7 => evLp (E89 L N) (evCallI (E89 L N) 1 2000) 1000 89 60 2 f89.c1 (contAt (E89 L N) (evCallI (E89 L N) 1 2000) 1000 89 60 2 f89.c0 (rdK (E89 L N) 1000 89 60 0 κ rec)) L (f89.T1 s4 s5 s6 s7) (f89.H1 s4 s5 s6 s7)) s0 s1 s2) (by kernel_rfl) ?_
  unfold f89.s0
  simp only [f89.l1_eq]
  delta f89.X1_e2
  simp only [f89.p1_e2_eq]
theorem f89.l0_eq {R : Type} (L N : Nat) (κ : KX R) : ∀ (n : Nat) (s0 : Bool) (s1 : LLM) (s2 : LB),
    evLp (E89 L N) (evCallI (E89 L N) 1 2000) 1000 89 60 0 f89.c0 κ n (f89.T0 s0 s1 s2) (f89.H0 s0 s1 s2)
    = f89.l0 L N (f89.X0_e0 κ) n s0 s1 s2 := by
  intro n
  induction n with
  | zero => intros; rfl
  | succ n ih =>
    intro s0 s1 s2
    rw [evLp_succ, f89.s0_eq]
    delta f89.R0
    simp only [ih]
    rfl
theorem f89.p0_e0_eq {R : Type} (L N : Nat) (κ : AV → Option R) (z3 : LB) :
    (contAt (E89 L N) (evCallI (E89 L N) 1 2000) 1000 89 60 0 (codeOf Tryz.f89) (finK (E89 L N) 1000 Tryz.f89 (finC (.one (.sl .bool)) κ))) (.exit 0) (f89.T0_e0 z3) (f89.H0_e0 z3)
    = f89.p0_e0 L N (fun a0 => κ (.tv (.sl .bool) a0)) z3 := by kernel_rfl
theorem f89.b_eq {R : Type} (L N : Nat) (κ : AV → Option R) (x0 : Graph) (x1 : LB) :
    evBody (E89 L N) (evCallI (E89 L N) 1 2000) 1000 89 Tryz.f89 [(.tv (.st 2) x0), (.tv (.sl .bool) x1)] [] [] (finC (.one (.sl .bool)) κ)
    = f89.b L N (fun a0 => κ (.tv (.sl .bool) a0)) x0 x1 := by
  refine Eq.trans (b := f89.b' L N (fun a0 => κ (.tv (.sl .bool) a0)) (fun s0 s1 s2 => evLp (E89 L N) (evCallI (E89 L N) 1 2000) 1000 89 60 0 f89.c0 (contAt (E89 L N) (evCallI (E89 L N) 1 2000) 1000 89 60 0 (codeOf Tryz.f89) (finK (E89 L N) 1000 Tryz.f89 (finC (.one (.sl .bool)) κ))) L (f89.T0 s0 s1 s2) (f89.H0 s0 s1 s2)) x0 x1) (by kernel_rfl) ?_
  unfold f89.b
  simp only [f89.l0_eq]
  delta f89.X0_e0
  simp only [f89.p0_e0_eq]
theorem f89.ok (L N : Nat) (hΦ : TellsOk Tryz.prog ((Φ9 L N))) : EntOk Tryz.prog 89 (f89.ent L N) := entDa_ok (E := (E89 L N)) (dep := 1000) (f := Tryz.f89) (sound_of hΦ) okP (callI_sound (sound_of hΦ) okP 1 2000) rfl fun d _ hy => (f89.b_eq L N (unR (.one (.sl .bool))) d.1 d.2.1).trans (Eq.trans (b := f89.b L N some d.1 d.2.1) (by kernel_rfl) hy)
def Φ89 (L N : Nat) : Tells := (addT (Φ9 L N) 89 (f89.ent L N))
theorem Φ89_ok (L N : Nat) : TellsOk Tryz.prog (Φ89 L N) := addT_ok (Φ9_ok L N) (f89.ok L N (Φ9_ok L N))
def f59.b' {R : Type} (L N : Nat) (k : LB → Option R) (x0 : Graph) : Option R :=
  bif (decide (0 ≤ (x0.moves.length : Int)) && decide ((x0.moves.length : Int) ≤ (lim : Int))) then
    bif (decide (0 ≤ (0 : Int)) && decide ((0 : Int) < ((List.replicate (x0.moves.length : Int).toNat false).length : Int))) then
      (f89 L N (Graph.mk x0.moves) ((List.replicate (x0.moves.length : Int).toNat false).set ((0 : Int).toNat) true)).bind fun y0 =>
      k y0
    else none
  else none
def f59.b {R : Type} (L N : Nat) (k : LB → Option R) (x0 : Graph) : Option R :=
  f59.b' L N k x0
def f59 (L N : Nat) (x0 : Graph) : Option (LB) := f59.b L N some x0
def f59.ent (L N : Nat) := entDa [(.st 2)] (.one (.sl .bool)) fun d => f59 L N d.1
noncomputable def E59 (L N : Nat) : Env := { P := Tryz.prog, ty := tyOf, Φ := (Φ89 L N), inl := inlT, live := lives, liveX := livesX, L := L, dp := none, prom := promT, heal := healT, ren := renT }
theorem f59.b_eq {R : Type} (L N : Nat) (κ : AV → Option R) (x0 : Graph) :
    evBody (E59 L N) (evCallI (E59 L N) 1 2000) 1000 59 Tryz.f59 [(.tv (.st 2) x0)] [] [] (finC (.one (.sl .bool)) κ)
    = f59.b L N (fun a0 => κ (.tv (.sl .bool) a0)) x0 := by kernel_rfl
theorem f59.ok (L N : Nat) (hΦ : TellsOk Tryz.prog ((Φ89 L N))) : EntOk Tryz.prog 59 (f59.ent L N) := entDa_ok (E := (E59 L N)) (dep := 1000) (f := Tryz.f59) (sound_of hΦ) okP (callI_sound (sound_of hΦ) okP 1 2000) rfl fun d _ hy => (f59.b_eq L N (unR (.one (.sl .bool))) d.1).trans (Eq.trans (b := f59.b L N some d.1) (by kernel_rfl) hy)
def Φ59 (L N : Nat) : Tells := (addT (Φ89 L N) 59 (f59.ent L N))
theorem Φ59_ok (L N : Nat) : TellsOk Tryz.prog (Φ59 L N) := addT_ok (Φ89_ok L N) (f59.ok L N (Φ89_ok L N))
def f60.j0' {R : Type} (L N : Nat) (k1_e2 : LB → Int → Int → LLM → LB → Option R) (rec1 : LB → Int → Int → Int → LLM → LB → Option R) (v18 : LB) (v19 : Int) (v20 : Int) (v21 : Int) (v22 : Bool) (v23 : LLM) (v24 : LB) : Option R :=
  bif v22 then
    bif (decide (0 ≤ v20) && decide (v20 < (v23.length : Int))) then
      bif (decide (0 ≤ v21) && decide (v21 < ((listAt v23 [] v20.toNat).length : Int))) then
        bif (decide (0 ≤ (listAt (listAt v23 [] v20.toNat) (Ty.dflt (.st 0)) v21.toNat).to) && decide ((listAt (listAt v23 [] v20.toNat) (Ty.dflt (.st 0)) v21.toNat).to < (v24.length : Int))) then
          rec1 v18 v19 v20 (wi (v21 + (1 : Int))) v23 (v24.set (((listAt (listAt v23 [] v20.toNat) (Ty.dflt (.st 0)) v21.toNat).to).toNat) true)
        else none
      else none
    else none
  else rec1 v18 v19 v20 (wi (v21 + (1 : Int))) v23 v24
def f60.s1' {R : Type} (L N : Nat) (k1_e2 : LB → Int → Int → LLM → LB → Option R) (rec1 : LB → Int → Int → Int → LLM → LB → Option R) (s7 : LB) (s8 : Int) (s9 : Int) (s10 : Int) (s11 : LLM) (s12 : LB) : Option R :=
  bif (decide (0 ≤ s9) && decide (s9 < (s11.length : Int))) then
    bif (decide (s10 < ((listAt s11 [] s9.toNat).length : Int))) then
      bif (decide (0 ≤ s9) && decide (s9 < (s7.length : Int))) then
        bif (listAt s7 false s9.toNat) then
          bif (decide (0 ≤ s9) && decide (s9 < (s11.length : Int))) then
            bif (decide (0 ≤ s10) && decide (s10 < ((listAt s11 [] s9.toNat).length : Int))) then
              f60.j0' L N k1_e2 rec1 s7 s8 s9 s10 ((listAt (listAt s11 [] s9.toNat) (Ty.dflt (.st 0)) s10.toNat).act == s8) s11 s12
            else none
          else none
        else f60.j0' L N k1_e2 rec1 s7 s8 s9 s10 false s11 s12
      else none
    else k1_e2 s7 s8 s9 s11 s12
  else none
def f60.s1 {R : Type} (L N : Nat) (k1_e2 : LB → Int → Int → LLM → LB → Option R) (rec1 : LB → Int → Int → Int → LLM → LB → Option R) (s7 : LB) (s8 : Int) (s9 : Int) (s10 : Int) (s11 : LLM) (s12 : LB) : Option R :=
  f60.s1' L N k1_e2 rec1 s7 s8 s9 s10 s11 s12
def f60.l1 {R : Type} (L N : Nat) (k1_e2 : LB → Int → Int → LLM → LB → Option R) : Nat → LB → Int → Int → Int → LLM → LB → Option R
  | 0, _, _, _, _, _, _ => none
  | n + 1, s7, s8, s9, s10, s11, s12 => f60.s1 L N k1_e2 (f60.l1 L N k1_e2 n) s7 s8 s9 s10 s11 s12
def f60.T1 (s7 : LB) (s8 : Int) (s9 : Int) (s10 : Int) (s11 : LLM) (s12 : LB) : T := mkT 60 [(1, (.tv (.sl .bool) s7)), (2, (.tv i64 s8)), (3, (.ptr 1003 0)), (7, (.row 1012)), (8, (.tv i64 s9)), (9, (.tv i64 s10))]
def f60.H1 (s7 : LB) (s8 : Int) (s9 : Int) (s10 : Int) (s11 : LLM) (s12 : LB) : H := [(1003, (.box [(.tv (.sl (.sl (.st 0))) s11)])), (1012, (.row 4 .bool s12))]
def f60.T1_e2 (z13 : LB) (z14 : Int) (z15 : Int) (z16 : LLM) (z17 : LB) : T := mkT 60 [(1, (.tv (.sl .bool) z13)), (2, (.tv i64 z14)), (3, (.ptr 1003 0)), (7, (.row 1012)), (8, (.tv i64 z15))]
def f60.H1_e2 (z13 : LB) (z14 : Int) (z15 : Int) (z16 : LLM) (z17 : LB) : H := [(1003, (.box [(.tv (.sl (.sl (.st 0))) z16)])), (1012, (.row 4 .bool z17))]
def f60.p1_e2' {R : Type} (L N : Nat) (k0_e0 : LLM → LB → Option R) (rec0 : LB → Int → Int → LLM → LB → Option R) (z13 : LB) (z14 : Int) (z15 : Int) (z16 : LLM) (z17 : LB) : Option R :=
  rec0 z13 z14 (wi (z15 + (1 : Int))) z16 z17
def f60.p1_e2 {R : Type} (L N : Nat) (k0_e0 : LLM → LB → Option R) (rec0 : LB → Int → Int → LLM → LB → Option R) (z13 : LB) (z14 : Int) (z15 : Int) (z16 : LLM) (z17 : LB) : Option R :=
  f60.p1_e2' L N k0_e0 rec0 z13 z14 z15 z16 z17
def f60.s0' {R : Type} (L N : Nat) (k0_e0 : LLM → LB → Option R) (rec0 : LB → Int → Int → LLM → LB → Option R) (w1 : LB → Int → Int → Int → LLM → LB → Option R) (s0 : LB) (s1 : Int) (s2 : Int) (s3 : LLM) (s4 : LB) : Option R :=
  bif (decide (s2 < (s0.length : Int))) then
    w1 s0 s1 s2 (0 : Int) s3 s4
  else k0_e0 s3 s4
def f60.s0 {R : Type} (L N : Nat) (k0_e0 : LLM → LB → Option R) (rec0 : LB → Int → Int → LLM → LB → Option R) (s0 : LB) (s1 : Int) (s2 : Int) (s3 : LLM) (s4 : LB) : Option R :=
  f60.s0' L N k0_e0 rec0 (fun s7 s8 s9 s10 s11 s12 => f60.l1 L N (fun z13 z14 z15 z16 z17 => f60.p1_e2 L N k0_e0 rec0 z13 z14 z15 z16 z17) L s7 s8 s9 s10 s11 s12) s0 s1 s2 s3 s4
def f60.l0 {R : Type} (L N : Nat) (k0_e0 : LLM → LB → Option R) : Nat → LB → Int → Int → LLM → LB → Option R
  | 0, _, _, _, _, _ => none
  | n + 1, s0, s1, s2, s3, s4 => f60.s0 L N k0_e0 (f60.l0 L N k0_e0 n) s0 s1 s2 s3 s4
def f60.T0 (s0 : LB) (s1 : Int) (s2 : Int) (s3 : LLM) (s4 : LB) : T := mkT 60 [(1, (.tv (.sl .bool) s0)), (2, (.tv i64 s1)), (3, (.ptr 1003 0)), (7, (.row 1012)), (8, (.tv i64 s2))]
def f60.H0 (s0 : LB) (s1 : Int) (s2 : Int) (s3 : LLM) (s4 : LB) : H := [(1003, (.box [(.tv (.sl (.sl (.st 0))) s3)])), (1012, (.row 4 .bool s4))]
def f60.T0_e0 (z5 : LLM) (z6 : LB) : T := mkT 60 [(3, (.ptr 1003 0)), (7, (.row 1012))]
def f60.H0_e0 (z5 : LLM) (z6 : LB) : H := [(1003, (.box [(.tv (.sl (.sl (.st 0))) z5)])), (1012, (.row 4 .bool z6))]
def f60.p0_e0' {R : Type} (L N : Nat) (k : LB → Option R) (z5 : LLM) (z6 : LB) : Option R :=
  (f89 L N (Graph.mk z5) z6).bind fun y31 =>
  k y31
def f60.p0_e0 {R : Type} (L N : Nat) (k : LB → Option R) (z5 : LLM) (z6 : LB) : Option R :=
  f60.p0_e0' L N k z5 z6
def f60.b' {R : Type} (L N : Nat) (k : LB → Option R) (w0 : LB → Int → Int → LLM → LB → Option R) (x0 : Graph) (x1 : LB) (x2 : Int) : Option R :=
  bif (decide (0 ≤ (x1.length : Int)) && decide ((x1.length : Int) ≤ (lim : Int))) then
    w0 x1 x2 (0 : Int) x0.moves (List.replicate (x1.length : Int).toNat false)
  else none
def f60.b {R : Type} (L N : Nat) (k : LB → Option R) (x0 : Graph) (x1 : LB) (x2 : Int) : Option R :=
  f60.b' L N k (fun s0 s1 s2 s3 s4 => f60.l0 L N (fun z5 z6 => f60.p0_e0 L N k z5 z6) L s0 s1 s2 s3 s4) x0 x1 x2
def f60 (L N : Nat) (x0 : Graph) (x1 : LB) (x2 : Int) : Option (LB) := f60.b L N some x0 x1 x2
def f60.ent (L N : Nat) := entDa [(.st 2), (.sl .bool), i64] (.one (.sl .bool)) fun d => f60 L N d.1 d.2.1 d.2.2.1
noncomputable def E60 (L N : Nat) : Env := { P := Tryz.prog, ty := tyOf, Φ := (Φ59 L N), inl := inlT, live := lives, liveX := livesX, L := L, dp := none, prom := promT, heal := healT, ren := renT }
noncomputable def f60.c0 : Code := loopAt 0 (codeOf Tryz.f60)
noncomputable def f60.c1 : Code := loopAt 2 f60.c0
def f60.X1_e2 {R : Type} (κ : KX R) := fun z13 z14 z15 z16 z17 => κ (.exit 2) (f60.T1_e2 z13 z14 z15 z16 z17) (f60.H1_e2 z13 z14 z15 z16 z17)
def f60.R1 {R : Type} (rec : KT R) := fun s7 s8 s9 s10 s11 s12 => rec (f60.T1 s7 s8 s9 s10 s11 s12) (f60.H1 s7 s8 s9 s10 s11 s12)
theorem f60.s1_eq {R : Type} (L N : Nat) (κ : KX R) (rec : KT R) (s7 : LB) (s8 : Int) (s9 : Int) (s10 : Int) (s11 : LLM) (s12 : LB) :
    evRd (E60 L N) (evCallI (E60 L N) 1 2000) 1000 60 60 2 f60.c1 κ rec (f60.T1 s7 s8 s9 s10 s11 s12) (f60.H1 s7 s8 s9 s10 s11 s12)
    = f60.s1 L N (f60.X1_e2 κ) (f60.R1 rec) s7 s8 s9 s10 s11 s12 := by kernel_rfl
theorem f60.l1_eq {R : Type} (L N : Nat) (κ : KX R) : ∀ (n : Nat) (s7 : LB) (s8 : Int) (s9 : Int) (s10 : Int) (s11 : LLM) (s12 : LB),
    evLp (E60 L N) (evCallI (E60 L N) 1 2000) 1000 60 60 2 f60.c1 κ n (f60.T1 s7 s8 s9 s10 s11 s12) (f60.H1 s7 s8 s9 s10 s11 s12)
    = f60.l1 L N (f60.X1_e2 κ) n s7 s8 s9 s10 s11 s12 := by
  intro n
  induction n with
  | zero => intros; rfl
  | succ n ih =>
    intro s7 s8 s9 s10 s11 s12
    rw [evLp_succ, f60.s1_eq]
    delta f60.R1
    simp only [ih]
    rfl
def f60.X0_e0 {R : Type} (κ : KX R) := fun z5 z6 => κ (.exit 0) (f60.T0_e0 z5 z6) (f60.H0_e0 z5 z6)
def f60.R0 {R : Type} (rec : KT R) := fun s0 s1 s2 s3 s4 => rec (f60.T0 s0 s1 s2 s3 s4) (f60.H0 s0 s1 s2 s3 s4)
theorem f60.p1_e2_eq {R : Type} (L N : Nat) (κ : KX R) (rec : KT R) (z13 : LB) (z14 : Int) (z15 : Int) (z16 : LLM) (z17 : LB) :
    (contAt (E60 L N) (evCallI (E60 L N) 1 2000) 1000 60 60 2 f60.c0 (rdK (E60 L N) 1000 60 60 0 κ rec)) (.exit 2) (f60.T1_e2 z13 z14 z15 z16 z17) (f60.H1_e2 z13 z14 z15 z16 z17)
    = f60.p1_e2 L N (f60.X0_e0 κ) (f60.R0 rec) z13 z14 z15 z16 z17 := by kernel_rfl
theorem f60.s0_eq {R : Type} (L N : Nat) (κ : KX R) (rec : KT R) (s0 : LB) (s1 : Int) (s2 : Int) (s3 : LLM) (s4 : LB) :
    evRd (E60 L N) (evCallI (E60 L N) 1 2000) 1000 60 60 0 f60.c0 κ rec (f60.T0 s0 s1 s2 s3 s4) (f60.H0 s0 s1 s2 s3 s4)
    = f60.s0 L N (f60.X0_e0 κ) (f60.R0 rec) s0 s1 s2 s3 s4 := by
  refine Eq.trans (b := f60.s0' L N (f60.X0_e0 κ) (f60.R0 rec) (fun s7 s8 s9 s10 s11 s12 => evLp (E60 L N) (evCallI (E60 L N) 1 2000) 1000 60 60 2 f60.c1 (contAt (E60 L N) (evCallI (E60 L N) 1 2000) 1000 60 60 2 f60.c0 (rdK (E60 L N) 1000 60 60 0 κ rec)) L (f60.T1 s7 s8 s9 s10 s11 s12) (f60.H1 s7 s8 s9 s10 s11 s12)) s0 s1 s2 s3 s4) (by kernel_rfl) ?_
  unfold f60.s0
  simp only [f60.l1_eq]
  delta f60.X1_e2
  simp only [f60.p1_e2_eq]
theorem f60.l0_eq {R : Type} (L N : Nat) (κ : KX R) : ∀ (n : Nat) (s0 : LB) (s1 : Int) (s2 : Int) (s3 : LLM) (s4 : LB),
    evLp (E60 L N) (evCallI (E60 L N) 1 2000) 1000 60 60 0 f60.c0 κ n (f60.T0 s0 s1 s2 s3 s4) (f60.H0 s0 s1 s2 s3 s4)
    = f60.l0 L N (f60.X0_e0 κ) n s0 s1 s2 s3 s4 := by
  intro n
  induction n with
  | zero => intros; rfl
  | succ n ih =>
    intro s0 s1 s2 s3 s4
    rw [evLp_succ, f60.s0_eq]
    delta f60.R0
    simp only [ih]
    rfl
theorem f60.p0_e0_eq {R : Type} (L N : Nat) (κ : AV → Option R) (z5 : LLM) (z6 : LB) :
    (contAt (E60 L N) (evCallI (E60 L N) 1 2000) 1000 60 60 0 (codeOf Tryz.f60) (finK (E60 L N) 1000 Tryz.f60 (finC (.one (.sl .bool)) κ))) (.exit 0) (f60.T0_e0 z5 z6) (f60.H0_e0 z5 z6)
    = f60.p0_e0 L N (fun a0 => κ (.tv (.sl .bool) a0)) z5 z6 := by kernel_rfl
theorem f60.b_eq {R : Type} (L N : Nat) (κ : AV → Option R) (x0 : Graph) (x1 : LB) (x2 : Int) :
    evBody (E60 L N) (evCallI (E60 L N) 1 2000) 1000 60 Tryz.f60 [(.tv (.st 2) x0), (.tv (.sl .bool) x1), (.tv i64 x2)] [] [] (finC (.one (.sl .bool)) κ)
    = f60.b L N (fun a0 => κ (.tv (.sl .bool) a0)) x0 x1 x2 := by
  refine Eq.trans (b := f60.b' L N (fun a0 => κ (.tv (.sl .bool) a0)) (fun s0 s1 s2 s3 s4 => evLp (E60 L N) (evCallI (E60 L N) 1 2000) 1000 60 60 0 f60.c0 (contAt (E60 L N) (evCallI (E60 L N) 1 2000) 1000 60 60 0 (codeOf Tryz.f60) (finK (E60 L N) 1000 Tryz.f60 (finC (.one (.sl .bool)) κ))) L (f60.T0 s0 s1 s2 s3 s4) (f60.H0 s0 s1 s2 s3 s4)) x0 x1 x2) (by kernel_rfl) ?_
  unfold f60.b
  simp only [f60.l0_eq]
  delta f60.X0_e0
  simp only [f60.p0_e0_eq]
theorem f60.ok (L N : Nat) (hΦ : TellsOk Tryz.prog ((Φ59 L N))) : EntOk Tryz.prog 60 (f60.ent L N) := entDa_ok (E := (E60 L N)) (dep := 1000) (f := Tryz.f60) (sound_of hΦ) okP (callI_sound (sound_of hΦ) okP 1 2000) rfl fun d _ hy => (f60.b_eq L N (unR (.one (.sl .bool))) d.1 d.2.1 d.2.2.1).trans (Eq.trans (b := f60.b L N some d.1 d.2.1 d.2.2.1) (by kernel_rfl) hy)
def Φ60 (L N : Nat) : Tells := (addT (Φ59 L N) 60 (f60.ent L N))
theorem Φ60_ok (L N : Nat) : TellsOk Tryz.prog (Φ60 L N) := addT_ok (Φ59_ok L N) (f60.ok L N (Φ59_ok L N))
def f61.s0' {R : Type} (L N : Nat) (k0_e0 : Option R) (k0_r : Bool → Option R) (rec0 : LB → Int → Option R) (s0 : LB) (s1 : Int) : Option R :=
  bif (decide (s1 < (s0.length : Int))) then
    bif (decide (0 ≤ s1) && decide (s1 < (s0.length : Int))) then
      bif (listAt s0 false s1.toNat) then
        k0_r true
      else rec0 s0 (wi (s1 + (1 : Int)))
    else none
  else k0_e0
def f61.s0 {R : Type} (L N : Nat) (k0_e0 : Option R) (k0_r : Bool → Option R) (rec0 : LB → Int → Option R) (s0 : LB) (s1 : Int) : Option R :=
  f61.s0' L N k0_e0 k0_r rec0 s0 s1
def f61.l0 {R : Type} (L N : Nat) (k0_e0 : Option R) (k0_r : Bool → Option R) : Nat → LB → Int → Option R
  | 0, _, _ => none
  | n + 1, s0, s1 => f61.s0 L N k0_e0 k0_r (f61.l0 L N k0_e0 k0_r n) s0 s1
def f61.T0 (s0 : LB) (s1 : Int) : T := mkT 14 [(0, (.tv (.sl .bool) s0)), (3, (.tv i64 s1))]
def f61.H0 (s0 : LB) (s1 : Int) : H := []
def f61.T0_e0 : T := mkT 14 []
def f61.H0_e0 : H := []
def f61.T0_r (z2 : Bool) : T := mkT 14 [(2, (.tv .bool z2))]
def f61.H0_r (z2 : Bool) : H := []
def f61.p0_e0' {R : Type} (L N : Nat) (k : Bool → Option R) : Option R :=
  k false
def f61.p0_e0 {R : Type} (L N : Nat) (k : Bool → Option R) : Option R :=
  f61.p0_e0' L N k
def f61.p0_r' {R : Type} (L N : Nat) (k : Bool → Option R) (z2 : Bool) : Option R :=
  k z2
def f61.p0_r {R : Type} (L N : Nat) (k : Bool → Option R) (z2 : Bool) : Option R :=
  f61.p0_r' L N k z2
def f61.b' {R : Type} (L N : Nat) (k : Bool → Option R) (w0 : LB → Int → Option R) (x0 : LB) : Option R :=
  w0 x0 (0 : Int)
def f61.b {R : Type} (L N : Nat) (k : Bool → Option R) (x0 : LB) : Option R :=
  f61.b' L N k (fun s0 s1 => f61.l0 L N (f61.p0_e0 L N k) (fun z2 => f61.p0_r L N k z2) L s0 s1) x0
def f61 (L N : Nat) (x0 : LB) : Option (Bool) := f61.b L N some x0
def f61.ent (L N : Nat) := entRo [(.sl .bool)] (.one .bool) fun d => f61 L N d.1
noncomputable def E61 (L N : Nat) : Env := { P := Tryz.prog, ty := tyOf, Φ := (Φ60 L N), inl := inlT, live := lives, liveX := livesX, L := L, dp := none, prom := promT, heal := healT, ren := renT }
noncomputable def f61.c0 : Code := loopAt 0 (codeOf Tryz.f61)
def f61.X0_e0 {R : Type} (κ : KX R) := κ (.exit 0) f61.T0_e0 f61.H0_e0
def f61.X0_r {R : Type} (κ : KX R) := fun z2 => κ .ret (f61.T0_r z2) (f61.H0_r z2)
def f61.R0 {R : Type} (rec : KT R) := fun s0 s1 => rec (f61.T0 s0 s1) (f61.H0 s0 s1)
theorem f61.s0_eq {R : Type} (L N : Nat) (κ : KX R) (rec : KT R) (s0 : LB) (s1 : Int) :
    evRd (E61 L N) (evCallI (E61 L N) 1 2000) 1000 61 14 0 f61.c0 κ rec (f61.T0 s0 s1) (f61.H0 s0 s1)
    = f61.s0 L N (f61.X0_e0 κ) (f61.X0_r κ) (f61.R0 rec) s0 s1 := by kernel_rfl
theorem f61.l0_eq {R : Type} (L N : Nat) (κ : KX R) : ∀ (n : Nat) (s0 : LB) (s1 : Int),
    evLp (E61 L N) (evCallI (E61 L N) 1 2000) 1000 61 14 0 f61.c0 κ n (f61.T0 s0 s1) (f61.H0 s0 s1)
    = f61.l0 L N (f61.X0_e0 κ) (f61.X0_r κ) n s0 s1 := by
  intro n
  induction n with
  | zero => intros; rfl
  | succ n ih =>
    intro s0 s1
    rw [evLp_succ, f61.s0_eq]
    delta f61.R0
    simp only [ih]
    rfl
theorem f61.p0_e0_eq {R : Type} (L N : Nat) (κ : AV → Option R) :
    (contAt (E61 L N) (evCallI (E61 L N) 1 2000) 1000 61 14 0 (codeOf Tryz.f61) (finK (E61 L N) 1000 Tryz.f61 (finC (.one .bool) κ))) (.exit 0) f61.T0_e0 f61.H0_e0
    = f61.p0_e0 L N (fun a0 => κ (.tv .bool a0)) := by kernel_rfl
theorem f61.p0_r_eq {R : Type} (L N : Nat) (κ : AV → Option R) (z2 : Bool) :
    (contAt (E61 L N) (evCallI (E61 L N) 1 2000) 1000 61 14 0 (codeOf Tryz.f61) (finK (E61 L N) 1000 Tryz.f61 (finC (.one .bool) κ))) .ret (f61.T0_r z2) (f61.H0_r z2)
    = f61.p0_r L N (fun a0 => κ (.tv .bool a0)) z2 := by kernel_rfl
theorem f61.b_eq {R : Type} (L N : Nat) (κ : AV → Option R) (x0 : LB) :
    evBody (E61 L N) (evCallI (E61 L N) 1 2000) 1000 61 Tryz.f61 [(.tv (.sl .bool) x0)] [] [] (finC (.one .bool) κ)
    = f61.b L N (fun a0 => κ (.tv .bool a0)) x0 := by
  refine Eq.trans (b := f61.b' L N (fun a0 => κ (.tv .bool a0)) (fun s0 s1 => evLp (E61 L N) (evCallI (E61 L N) 1 2000) 1000 61 14 0 f61.c0 (contAt (E61 L N) (evCallI (E61 L N) 1 2000) 1000 61 14 0 (codeOf Tryz.f61) (finK (E61 L N) 1000 Tryz.f61 (finC (.one .bool) κ))) L (f61.T0 s0 s1) (f61.H0 s0 s1)) x0) (by kernel_rfl) ?_
  unfold f61.b
  simp only [f61.l0_eq]
  delta f61.X0_e0 f61.X0_r
  simp only [f61.p0_e0_eq, f61.p0_r_eq]
theorem f61.ok (L N : Nat) (hΦ : TellsOk Tryz.prog ((Φ60 L N))) : EntOk Tryz.prog 61 (f61.ent L N) := entRo_ok (E := (E61 L N)) (dep := 1000) (f := Tryz.f61) (sound_of hΦ) okP (callI_sound (sound_of hΦ) okP 1 2000) rfl rfl fun d _ hy => (f61.b_eq L N (unR (.one .bool)) d.1).trans (Eq.trans (b := f61.b L N some d.1) (by kernel_rfl) hy)
def Φ61 (L N : Nat) : Tells := (addT (Φ60 L N) 61 (f61.ent L N))
theorem Φ61_ok (L N : Nat) : TellsOk Tryz.prog (Φ61 L N) := addT_ok (Φ60_ok L N) (f61.ok L N (Φ60_ok L N))
def f90.s0' {R : Type} (L N : Nat) (k0_e0 : Option R) (k0_r : Bool → Option R) (rec0 : LI → LI → Int → Option R) (s0 : LI) (s1 : LI) (s2 : Int) : Option R :=
  bif (decide (s2 < (s0.length : Int))) then
    bif (decide (0 ≤ s2) && decide (s2 < (s0.length : Int))) then
      bif (decide (0 ≤ s2) && decide (s2 < (s1.length : Int))) then
        bif ((listAt s0 (0 : Int) s2.toNat) != (listAt s1 (0 : Int) s2.toNat)) then
          k0_r false
        else rec0 s0 s1 (wi (s2 + (1 : Int)))
      else none
    else none
  else k0_e0
def f90.s0 {R : Type} (L N : Nat) (k0_e0 : Option R) (k0_r : Bool → Option R) (rec0 : LI → LI → Int → Option R) (s0 : LI) (s1 : LI) (s2 : Int) : Option R :=
  f90.s0' L N k0_e0 k0_r rec0 s0 s1 s2
def f90.l0 {R : Type} (L N : Nat) (k0_e0 : Option R) (k0_r : Bool → Option R) : Nat → LI → LI → Int → Option R
  | 0, _, _, _ => none
  | n + 1, s0, s1, s2 => f90.s0 L N k0_e0 k0_r (f90.l0 L N k0_e0 k0_r n) s0 s1 s2
def f90.T0 (s0 : LI) (s1 : LI) (s2 : Int) : T := mkT 26 [(0, (.tv (.sl i64) s0)), (1, (.tv (.sl i64) s1)), (5, (.tv i64 s2))]
def f90.H0 (s0 : LI) (s1 : LI) (s2 : Int) : H := []
def f90.T0_e0 : T := mkT 26 []
def f90.H0_e0 : H := []
def f90.T0_r (z3 : Bool) : T := mkT 26 [(4, (.tv .bool z3))]
def f90.H0_r (z3 : Bool) : H := []
def f90.p0_e0' {R : Type} (L N : Nat) (k : Bool → Option R) : Option R :=
  k true
def f90.p0_e0 {R : Type} (L N : Nat) (k : Bool → Option R) : Option R :=
  f90.p0_e0' L N k
def f90.p0_r' {R : Type} (L N : Nat) (k : Bool → Option R) (z3 : Bool) : Option R :=
  k z3
def f90.p0_r {R : Type} (L N : Nat) (k : Bool → Option R) (z3 : Bool) : Option R :=
  f90.p0_r' L N k z3
def f90.b' {R : Type} (L N : Nat) (k : Bool → Option R) (w0 : LI → LI → Int → Option R) (x0 : LI) (x1 : LI) : Option R :=
  bif ((x0.length : Int) != (x1.length : Int)) then
    k false
  else w0 x0 x1 (0 : Int)
def f90.b {R : Type} (L N : Nat) (k : Bool → Option R) (x0 : LI) (x1 : LI) : Option R :=
  f90.b' L N k (fun s0 s1 s2 => f90.l0 L N (f90.p0_e0 L N k) (fun z3 => f90.p0_r L N k z3) L s0 s1 s2) x0 x1
def f90 (L N : Nat) (x0 : LI) (x1 : LI) : Option (Bool) := f90.b L N some x0 x1
def f90.ent (L N : Nat) := entRo [(.sl i64), (.sl i64)] (.one .bool) fun d => f90 L N d.1 d.2.1
noncomputable def E90 (L N : Nat) : Env := { P := Tryz.prog, ty := tyOf, Φ := (Φ61 L N), inl := inlT, live := lives, liveX := livesX, L := L, dp := none, prom := promT, heal := healT, ren := renT }
noncomputable def f90.c0 : Code := loopAt 0 (codeOf Tryz.f90)
def f90.X0_e0 {R : Type} (κ : KX R) := κ (.exit 0) f90.T0_e0 f90.H0_e0
def f90.X0_r {R : Type} (κ : KX R) := fun z3 => κ .ret (f90.T0_r z3) (f90.H0_r z3)
def f90.R0 {R : Type} (rec : KT R) := fun s0 s1 s2 => rec (f90.T0 s0 s1 s2) (f90.H0 s0 s1 s2)
theorem f90.s0_eq {R : Type} (L N : Nat) (κ : KX R) (rec : KT R) (s0 : LI) (s1 : LI) (s2 : Int) :
    evRd (E90 L N) (evCallI (E90 L N) 1 2000) 1000 90 26 0 f90.c0 κ rec (f90.T0 s0 s1 s2) (f90.H0 s0 s1 s2)
    = f90.s0 L N (f90.X0_e0 κ) (f90.X0_r κ) (f90.R0 rec) s0 s1 s2 := by kernel_rfl
theorem f90.l0_eq {R : Type} (L N : Nat) (κ : KX R) : ∀ (n : Nat) (s0 : LI) (s1 : LI) (s2 : Int),
    evLp (E90 L N) (evCallI (E90 L N) 1 2000) 1000 90 26 0 f90.c0 κ n (f90.T0 s0 s1 s2) (f90.H0 s0 s1 s2)
    = f90.l0 L N (f90.X0_e0 κ) (f90.X0_r κ) n s0 s1 s2 := by
  intro n
  induction n with
  | zero => intros; rfl
  | succ n ih =>
    intro s0 s1 s2
    rw [evLp_succ, f90.s0_eq]
    delta f90.R0
    simp only [ih]
    rfl
theorem f90.p0_e0_eq {R : Type} (L N : Nat) (κ : AV → Option R) :
    (contAt (E90 L N) (evCallI (E90 L N) 1 2000) 1000 90 26 0 (codeOf Tryz.f90) (finK (E90 L N) 1000 Tryz.f90 (finC (.one .bool) κ))) (.exit 0) f90.T0_e0 f90.H0_e0
    = f90.p0_e0 L N (fun a0 => κ (.tv .bool a0)) := by kernel_rfl
theorem f90.p0_r_eq {R : Type} (L N : Nat) (κ : AV → Option R) (z3 : Bool) :
    (contAt (E90 L N) (evCallI (E90 L N) 1 2000) 1000 90 26 0 (codeOf Tryz.f90) (finK (E90 L N) 1000 Tryz.f90 (finC (.one .bool) κ))) .ret (f90.T0_r z3) (f90.H0_r z3)
    = f90.p0_r L N (fun a0 => κ (.tv .bool a0)) z3 := by kernel_rfl
theorem f90.b_eq {R : Type} (L N : Nat) (κ : AV → Option R) (x0 : LI) (x1 : LI) :
    evBody (E90 L N) (evCallI (E90 L N) 1 2000) 1000 90 Tryz.f90 [(.tv (.sl i64) x0), (.tv (.sl i64) x1)] [] [] (finC (.one .bool) κ)
    = f90.b L N (fun a0 => κ (.tv .bool a0)) x0 x1 := by
  refine Eq.trans (b := f90.b' L N (fun a0 => κ (.tv .bool a0)) (fun s0 s1 s2 => evLp (E90 L N) (evCallI (E90 L N) 1 2000) 1000 90 26 0 f90.c0 (contAt (E90 L N) (evCallI (E90 L N) 1 2000) 1000 90 26 0 (codeOf Tryz.f90) (finK (E90 L N) 1000 Tryz.f90 (finC (.one .bool) κ))) L (f90.T0 s0 s1 s2) (f90.H0 s0 s1 s2)) x0 x1) (by kernel_rfl) ?_
  unfold f90.b
  simp only [f90.l0_eq]
  delta f90.X0_e0 f90.X0_r
  simp only [f90.p0_e0_eq, f90.p0_r_eq]
theorem f90.ok (L N : Nat) (hΦ : TellsOk Tryz.prog ((Φ61 L N))) : EntOk Tryz.prog 90 (f90.ent L N) := entRo_ok (E := (E90 L N)) (dep := 1000) (f := Tryz.f90) (sound_of hΦ) okP (callI_sound (sound_of hΦ) okP 1 2000) rfl rfl fun d _ hy => (f90.b_eq L N (unR (.one .bool)) d.1 d.2.1).trans (Eq.trans (b := f90.b L N some d.1 d.2.1) (by kernel_rfl) hy)
def Φ90 (L N : Nat) : Tells := (addT (Φ61 L N) 90 (f90.ent L N))
theorem Φ90_ok (L N : Nat) : TellsOk Tryz.prog (Φ90 L N) := addT_ok (Φ61_ok L N) (f90.ok L N (Φ61_ok L N))
def f91.s0' {R : Type} (L N : Nat) (k0_e0 : LI → Option R) (rec0 : LB → Int → LI → Option R) (s0 : LB) (s1 : Int) (s2 : LI) : Option R :=
  bif (decide (s1 < (s0.length : Int))) then
    bif (decide (0 ≤ s1) && decide (s1 < (s0.length : Int))) then
      bif (listAt s0 false s1.toNat) then
        bif (decide (s2.length + ([s1] : LI).length ≤ lim)) then
          rec0 s0 (wi (s1 + (1 : Int))) (s2 ++ ([s1] : LI))
        else none
      else rec0 s0 (wi (s1 + (1 : Int))) s2
    else none
  else k0_e0 s2
def f91.s0 {R : Type} (L N : Nat) (k0_e0 : LI → Option R) (rec0 : LB → Int → LI → Option R) (s0 : LB) (s1 : Int) (s2 : LI) : Option R :=
  f91.s0' L N k0_e0 rec0 s0 s1 s2
def f91.l0 {R : Type} (L N : Nat) (k0_e0 : LI → Option R) : Nat → LB → Int → LI → Option R
  | 0, _, _, _ => none
  | n + 1, s0, s1, s2 => f91.s0 L N k0_e0 (f91.l0 L N k0_e0 n) s0 s1 s2
def f91.T0 (s0 : LB) (s1 : Int) (s2 : LI) : T := mkT 21 [(0, (.tv (.sl .bool) s0)), (3, (.row 1005)), (4, (.tv i64 s1))]
def f91.H0 (s0 : LB) (s1 : Int) (s2 : LI) : H := [(1005, (.row 3 i64 s2))]
def f91.T0_e0 (z3 : LI) : T := mkT 21 [(3, (.row 1005))]
def f91.H0_e0 (z3 : LI) : H := [(1005, (.row 3 i64 z3))]
def f91.p0_e0' {R : Type} (L N : Nat) (k : LI → Option R) (z3 : LI) : Option R :=
  k z3
def f91.p0_e0 {R : Type} (L N : Nat) (k : LI → Option R) (z3 : LI) : Option R :=
  f91.p0_e0' L N k z3
def f91.b' {R : Type} (L N : Nat) (k : LI → Option R) (w0 : LB → Int → LI → Option R) (x0 : LB) : Option R :=
  w0 x0 (0 : Int) ([] : LI)
def f91.b {R : Type} (L N : Nat) (k : LI → Option R) (x0 : LB) : Option R :=
  f91.b' L N k (fun s0 s1 s2 => f91.l0 L N (fun z3 => f91.p0_e0 L N k z3) L s0 s1 s2) x0
def f91 (L N : Nat) (x0 : LB) : Option (LI) := f91.b L N some x0
def f91.ent (L N : Nat) := entDa [(.sl .bool)] (.one (.sl i64)) fun d => f91 L N d.1
noncomputable def E91 (L N : Nat) : Env := { P := Tryz.prog, ty := tyOf, Φ := (Φ90 L N), inl := inlT, live := lives, liveX := livesX, L := L, dp := none, prom := promT, heal := healT, ren := renT }
noncomputable def f91.c0 : Code := loopAt 0 (codeOf Tryz.f91)
def f91.X0_e0 {R : Type} (κ : KX R) := fun z3 => κ (.exit 0) (f91.T0_e0 z3) (f91.H0_e0 z3)
def f91.R0 {R : Type} (rec : KT R) := fun s0 s1 s2 => rec (f91.T0 s0 s1 s2) (f91.H0 s0 s1 s2)
theorem f91.s0_eq {R : Type} (L N : Nat) (κ : KX R) (rec : KT R) (s0 : LB) (s1 : Int) (s2 : LI) :
    evRd (E91 L N) (evCallI (E91 L N) 1 2000) 1000 91 21 0 f91.c0 κ rec (f91.T0 s0 s1 s2) (f91.H0 s0 s1 s2)
    = f91.s0 L N (f91.X0_e0 κ) (f91.R0 rec) s0 s1 s2 := by kernel_rfl
theorem f91.l0_eq {R : Type} (L N : Nat) (κ : KX R) : ∀ (n : Nat) (s0 : LB) (s1 : Int) (s2 : LI),
    evLp (E91 L N) (evCallI (E91 L N) 1 2000) 1000 91 21 0 f91.c0 κ n (f91.T0 s0 s1 s2) (f91.H0 s0 s1 s2)
    = f91.l0 L N (f91.X0_e0 κ) n s0 s1 s2 := by
  intro n
  induction n with
  | zero => intros; rfl
  | succ n ih =>
    intro s0 s1 s2
    rw [evLp_succ, f91.s0_eq]
    delta f91.R0
    simp only [ih]
    rfl
theorem f91.p0_e0_eq {R : Type} (L N : Nat) (κ : AV → Option R) (z3 : LI) :
    (contAt (E91 L N) (evCallI (E91 L N) 1 2000) 1000 91 21 0 (codeOf Tryz.f91) (finK (E91 L N) 1000 Tryz.f91 (finC (.one (.sl i64)) κ))) (.exit 0) (f91.T0_e0 z3) (f91.H0_e0 z3)
    = f91.p0_e0 L N (fun a0 => κ (.tv (.sl i64) a0)) z3 := by kernel_rfl
theorem f91.b_eq {R : Type} (L N : Nat) (κ : AV → Option R) (x0 : LB) :
    evBody (E91 L N) (evCallI (E91 L N) 1 2000) 1000 91 Tryz.f91 [(.tv (.sl .bool) x0)] [] [] (finC (.one (.sl i64)) κ)
    = f91.b L N (fun a0 => κ (.tv (.sl i64) a0)) x0 := by
  refine Eq.trans (b := f91.b' L N (fun a0 => κ (.tv (.sl i64) a0)) (fun s0 s1 s2 => evLp (E91 L N) (evCallI (E91 L N) 1 2000) 1000 91 21 0 f91.c0 (contAt (E91 L N) (evCallI (E91 L N) 1 2000) 1000 91 21 0 (codeOf Tryz.f91) (finK (E91 L N) 1000 Tryz.f91 (finC (.one (.sl i64)) κ))) L (f91.T0 s0 s1 s2) (f91.H0 s0 s1 s2)) x0) (by kernel_rfl) ?_
  unfold f91.b
  simp only [f91.l0_eq]
  delta f91.X0_e0
  simp only [f91.p0_e0_eq]
theorem f91.ok (L N : Nat) (hΦ : TellsOk Tryz.prog ((Φ90 L N))) : EntOk Tryz.prog 91 (f91.ent L N) := entDa_ok (E := (E91 L N)) (dep := 1000) (f := Tryz.f91) (sound_of hΦ) okP (callI_sound (sound_of hΦ) okP 1 2000) rfl fun d _ hy => (f91.b_eq L N (unR (.one (.sl i64))) d.1).trans (Eq.trans (b := f91.b L N some d.1) (by kernel_rfl) hy)
def Φ91 (L N : Nat) : Tells := (addT (Φ90 L N) 91 (f91.ent L N))
theorem Φ91_ok (L N : Nat) : TellsOk Tryz.prog (Φ91 L N) := addT_ok (Φ90_ok L N) (f91.ok L N (Φ90_ok L N))
def f62.s0' {R : Type} (L N : Nat) (k0_e0 : LLB → Option R) (k0_r : LLB → Int → Option R) (rec0 : LLB → LB → Int → Option R) (s0 : LLB) (s1 : LB) (s2 : Int) : Option R :=
  bif (decide (s2 < (s0.length : Int))) then
    bif (decide (0 ≤ s2) && decide (s2 < (s0.length : Int))) then
      (f91 L N (listAt s0 [] s2.toNat)).bind fun y4 =>
      (f91 L N s1).bind fun y5 =>
      (f90 L N y4 y5).bind fun y6 =>
      bif y6 then
        k0_r s0 s2
      else rec0 s0 s1 (wi (s2 + (1 : Int)))
    else none
  else k0_e0 s0
def f62.s0 {R : Type} (L N : Nat) (k0_e0 : LLB → Option R) (k0_r : LLB → Int → Option R) (rec0 : LLB → LB → Int → Option R) (s0 : LLB) (s1 : LB) (s2 : Int) : Option R :=
  f62.s0' L N k0_e0 k0_r rec0 s0 s1 s2
def f62.l0 {R : Type} (L N : Nat) (k0_e0 : LLB → Option R) (k0_r : LLB → Int → Option R) : Nat → LLB → LB → Int → Option R
  | 0, _, _, _ => none
  | n + 1, s0, s1, s2 => f62.s0 L N k0_e0 k0_r (f62.l0 L N k0_e0 k0_r n) s0 s1 s2
def f62.T0 (s0 : LLB) (s1 : LB) (s2 : Int) : T := mkT 23 [(0, (.tv (.sl (.sl .bool)) s0)), (1, (.tv (.sl .bool) s1)), (5, (.tv i64 s2))]
def f62.H0 (s0 : LLB) (s1 : LB) (s2 : Int) : H := []
def f62.T0_e0 (z3 : LLB) : T := mkT 23 [(0, (.tv (.sl (.sl .bool)) z3))]
def f62.H0_e0 (z3 : LLB) : H := []
def f62.T0_r (z7 : LLB) (z8 : Int) : T := mkT 23 [(0, (.tv (.sl (.sl .bool)) z7)), (4, (.tv i64 z8))]
def f62.H0_r (z7 : LLB) (z8 : Int) : H := []
def f62.p0_e0' {R : Type} (L N : Nat) (k : Int → Option R) (z3 : LLB) : Option R :=
  k (z3.length : Int)
def f62.p0_e0 {R : Type} (L N : Nat) (k : Int → Option R) (z3 : LLB) : Option R :=
  f62.p0_e0' L N k z3
def f62.p0_r' {R : Type} (L N : Nat) (k : Int → Option R) (z7 : LLB) (z8 : Int) : Option R :=
  k z8
def f62.p0_r {R : Type} (L N : Nat) (k : Int → Option R) (z7 : LLB) (z8 : Int) : Option R :=
  f62.p0_r' L N k z7 z8
def f62.b' {R : Type} (L N : Nat) (k : Int → Option R) (w0 : LLB → LB → Int → Option R) (x0 : LLB) (x1 : LB) : Option R :=
  w0 x0 x1 (0 : Int)
def f62.b {R : Type} (L N : Nat) (k : Int → Option R) (x0 : LLB) (x1 : LB) : Option R :=
  f62.b' L N k (fun s0 s1 s2 => f62.l0 L N (fun z3 => f62.p0_e0 L N k z3) (fun z7 z8 => f62.p0_r L N k z7 z8) L s0 s1 s2) x0 x1
def f62 (L N : Nat) (x0 : LLB) (x1 : LB) : Option (Int) := f62.b L N some x0 x1
def f62.ent (L N : Nat) := entRo [(.sl (.sl .bool)), (.sl .bool)] (.one i64) fun d => f62 L N d.1 d.2.1
noncomputable def E62 (L N : Nat) : Env := { P := Tryz.prog, ty := tyOf, Φ := (Φ91 L N), inl := inlT, live := lives, liveX := livesX, L := L, dp := none, prom := promT, heal := healT, ren := renT }
noncomputable def f62.c0 : Code := loopAt 0 (codeOf Tryz.f62)
def f62.X0_e0 {R : Type} (κ : KX R) := fun z3 => κ (.exit 0) (f62.T0_e0 z3) (f62.H0_e0 z3)
def f62.X0_r {R : Type} (κ : KX R) := fun z7 z8 => κ .ret (f62.T0_r z7 z8) (f62.H0_r z7 z8)
def f62.R0 {R : Type} (rec : KT R) := fun s0 s1 s2 => rec (f62.T0 s0 s1 s2) (f62.H0 s0 s1 s2)
theorem f62.s0_eq {R : Type} (L N : Nat) (κ : KX R) (rec : KT R) (s0 : LLB) (s1 : LB) (s2 : Int) :
    evRd (E62 L N) (evCallI (E62 L N) 1 2000) 1000 62 23 0 f62.c0 κ rec (f62.T0 s0 s1 s2) (f62.H0 s0 s1 s2)
    = f62.s0 L N (f62.X0_e0 κ) (f62.X0_r κ) (f62.R0 rec) s0 s1 s2 := by kernel_rfl
theorem f62.l0_eq {R : Type} (L N : Nat) (κ : KX R) : ∀ (n : Nat) (s0 : LLB) (s1 : LB) (s2 : Int),
    evLp (E62 L N) (evCallI (E62 L N) 1 2000) 1000 62 23 0 f62.c0 κ n (f62.T0 s0 s1 s2) (f62.H0 s0 s1 s2)
    = f62.l0 L N (f62.X0_e0 κ) (f62.X0_r κ) n s0 s1 s2 := by
  intro n
  induction n with
  | zero => intros; rfl
  | succ n ih =>
    intro s0 s1 s2
    rw [evLp_succ, f62.s0_eq]
    delta f62.R0
    simp only [ih]
    rfl
theorem f62.p0_e0_eq {R : Type} (L N : Nat) (κ : AV → Option R) (z3 : LLB) :
    (contAt (E62 L N) (evCallI (E62 L N) 1 2000) 1000 62 23 0 (codeOf Tryz.f62) (finK (E62 L N) 1000 Tryz.f62 (finC (.one i64) κ))) (.exit 0) (f62.T0_e0 z3) (f62.H0_e0 z3)
    = f62.p0_e0 L N (fun a0 => κ (.tv i64 a0)) z3 := by kernel_rfl
theorem f62.p0_r_eq {R : Type} (L N : Nat) (κ : AV → Option R) (z7 : LLB) (z8 : Int) :
    (contAt (E62 L N) (evCallI (E62 L N) 1 2000) 1000 62 23 0 (codeOf Tryz.f62) (finK (E62 L N) 1000 Tryz.f62 (finC (.one i64) κ))) .ret (f62.T0_r z7 z8) (f62.H0_r z7 z8)
    = f62.p0_r L N (fun a0 => κ (.tv i64 a0)) z7 z8 := by kernel_rfl
theorem f62.b_eq {R : Type} (L N : Nat) (κ : AV → Option R) (x0 : LLB) (x1 : LB) :
    evBody (E62 L N) (evCallI (E62 L N) 1 2000) 1000 62 Tryz.f62 [(.tv (.sl (.sl .bool)) x0), (.tv (.sl .bool) x1)] [] [] (finC (.one i64) κ)
    = f62.b L N (fun a0 => κ (.tv i64 a0)) x0 x1 := by
  refine Eq.trans (b := f62.b' L N (fun a0 => κ (.tv i64 a0)) (fun s0 s1 s2 => evLp (E62 L N) (evCallI (E62 L N) 1 2000) 1000 62 23 0 f62.c0 (contAt (E62 L N) (evCallI (E62 L N) 1 2000) 1000 62 23 0 (codeOf Tryz.f62) (finK (E62 L N) 1000 Tryz.f62 (finC (.one i64) κ))) L (f62.T0 s0 s1 s2) (f62.H0 s0 s1 s2)) x0 x1) (by kernel_rfl) ?_
  unfold f62.b
  simp only [f62.l0_eq]
  delta f62.X0_e0 f62.X0_r
  simp only [f62.p0_e0_eq, f62.p0_r_eq]
theorem f62.ok (L N : Nat) (hΦ : TellsOk Tryz.prog ((Φ91 L N))) : EntOk Tryz.prog 62 (f62.ent L N) := entRo_ok (E := (E62 L N)) (dep := 1000) (f := Tryz.f62) (sound_of hΦ) okP (callI_sound (sound_of hΦ) okP 1 2000) rfl rfl fun d _ hy => (f62.b_eq L N (unR (.one i64)) d.1 d.2.1).trans (Eq.trans (b := f62.b L N some d.1 d.2.1) (by kernel_rfl) hy)
def Φ62 (L N : Nat) : Tells := (addT (Φ91 L N) 62 (f62.ent L N))
theorem Φ62_ok (L N : Nat) : TellsOk Tryz.prog (Φ62 L N) := addT_ok (Φ91_ok L N) (f62.ok L N (Φ91_ok L N))
def f23.j0' {R : Type} (L N : Nat) (k1_e2 : Int → LLM → LLB → LM → LLM → Option R) (k1_r : Bool → Int → LLM → LLB → LM → LLM → Option R) (rec1 : Int → Int → LLM → LLB → LM → LLM → Option R) (v28 : Int) (v29 : Int) (v30 : LB) (v31 : LLM) (v32 : LLB) (v33 : LM) (v34 : LLM) : Option R :=
  (f62 L N v32 v30).bind fun y35 =>
  bif (y35 == (60 : Int)) then
    k1_r false v28 v31 v32 v33 v34
  else bif (y35 == (v32.length : Int)) then
    bif (decide (v32.length + ([v30] : LLB).length ≤ lim)) then
      bif (decide (v33.length + ([(Move.mk v29 y35)] : LM).length ≤ lim)) then
        rec1 v28 (wi (v29 + (1 : Int))) v31 (v32 ++ ([v30] : LLB)) (v33 ++ ([(Move.mk v29 y35)] : LM)) v34
      else none
    else none
  else bif (decide (v33.length + ([(Move.mk v29 y35)] : LM).length ≤ lim)) then
    rec1 v28 (wi (v29 + (1 : Int))) v31 v32 (v33 ++ ([(Move.mk v29 y35)] : LM)) v34
  else none
def f23.s1' {R : Type} (L N : Nat) (k1_e2 : Int → LLM → LLB → LM → LLM → Option R) (k1_r : Bool → Int → LLM → LLB → LM → LLM → Option R) (rec1 : Int → Int → LLM → LLB → LM → LLM → Option R) (s7 : Int) (s8 : Int) (s9 : LLM) (s10 : LLB) (s11 : LM) (s12 : LLM) : Option R :=
  bif (decide (s8 ≤ (4 : Int))) then
    bif (decide (0 ≤ s7) && decide (s7 < (s10.length : Int))) then
      (f60 L N (Graph.mk s9) (listAt s10 [] s7.toNat) s8).bind fun y18 =>
      bif (s8 == (0 : Int)) then
        rec1 s7 (wi (s8 + (1 : Int))) s9 s10 s11 s12
      else (f61 L N y18).bind fun y19 =>
      bif (!y19) then
        rec1 s7 (wi (s8 + (1 : Int))) s9 s10 s11 s12
      else f23.j0' L N k1_e2 k1_r rec1 s7 s8 y18 s9 s10 s11 s12
    else none
  else k1_e2 s7 s9 s10 s11 s12
def f23.s1 {R : Type} (L N : Nat) (k1_e2 : Int → LLM → LLB → LM → LLM → Option R) (k1_r : Bool → Int → LLM → LLB → LM → LLM → Option R) (rec1 : Int → Int → LLM → LLB → LM → LLM → Option R) (s7 : Int) (s8 : Int) (s9 : LLM) (s10 : LLB) (s11 : LM) (s12 : LLM) : Option R :=
  f23.s1' L N k1_e2 k1_r rec1 s7 s8 s9 s10 s11 s12
def f23.l1 {R : Type} (L N : Nat) (k1_e2 : Int → LLM → LLB → LM → LLM → Option R) (k1_r : Bool → Int → LLM → LLB → LM → LLM → Option R) : Nat → Int → Int → LLM → LLB → LM → LLM → Option R
  | 0, _, _, _, _, _, _ => none
  | n + 1, s7, s8, s9, s10, s11, s12 => f23.s1 L N k1_e2 k1_r (f23.l1 L N k1_e2 k1_r n) s7 s8 s9 s10 s11 s12
def f23.T1 (s7 : Int) (s8 : Int) (s9 : LLM) (s10 : LLB) (s11 : LM) (s12 : LLM) : T := mkT 71 [(1, (.ptr 1001 0)), (2, (.ptr 1002 0)), (4, (.row 1017)), (5, (.ptr 1005 0)), (6, (.tv i64 s7)), (7, (.row 1025)), (8, (.tv i64 s8))]
def f23.H1 (s7 : Int) (s8 : Int) (s9 : LLM) (s10 : LLB) (s11 : LM) (s12 : LLM) : H := [(1001, (.box [(.tv (.sl (.sl (.st 0))) s9)])), (1002, (.box [.nil])), (1005, (.box [(.row 1900)])), (1017, (.row 68 (.sl .bool) s10)), (1025, (.row 48 (.st 0) s11)), (1900, (.row 46 (.sl (.st 0)) s12))]
def f23.T1_e2 (z13 : Int) (z14 : LLM) (z15 : LLB) (z16 : LM) (z17 : LLM) : T := mkT 71 [(1, (.ptr 1001 0)), (2, (.ptr 1002 0)), (4, (.row 1017)), (5, (.ptr 1005 0)), (6, (.tv i64 z13)), (7, (.row 1025))]
def f23.H1_e2 (z13 : Int) (z14 : LLM) (z15 : LLB) (z16 : LM) (z17 : LLM) : H := [(1001, (.box [(.tv (.sl (.sl (.st 0))) z14)])), (1002, (.box [.nil])), (1005, (.box [(.row 1900)])), (1017, (.row 68 (.sl .bool) z15)), (1025, (.row 48 (.st 0) z16)), (1900, (.row 46 (.sl (.st 0)) z17))]
def f23.T1_r (z36 : Bool) (z37 : Int) (z38 : LLM) (z39 : LLB) (z40 : LM) (z41 : LLM) : T := mkT 71 [(1, (.ptr 1001 0)), (2, (.ptr 1002 0)), (3, (.tv .bool z36)), (4, (.row 1017)), (5, (.ptr 1005 0)), (6, (.tv i64 z37)), (7, (.row 1025))]
def f23.H1_r (z36 : Bool) (z37 : Int) (z38 : LLM) (z39 : LLB) (z40 : LM) (z41 : LLM) : H := [(1001, (.box [(.tv (.sl (.sl (.st 0))) z38)])), (1002, (.box [.nil])), (1005, (.box [(.row 1900)])), (1017, (.row 68 (.sl .bool) z39)), (1025, (.row 48 (.st 0) z40)), (1900, (.row 46 (.sl (.st 0)) z41))]
def f23.p1_e2' {R : Type} (L N : Nat) (k0_e0 : LLM → Option R) (k0_r : Bool → LLM → Option R) (rec0 : Int → LLM → LLB → LLM → Option R) (z13 : Int) (z14 : LLM) (z15 : LLB) (z16 : LM) (z17 : LLM) : Option R :=
  bif (decide (z17.length + ([z16] : LLM).length ≤ lim)) then
    rec0 (wi (z13 + (1 : Int))) z14 z15 (z17 ++ ([z16] : LLM))
  else none
def f23.p1_e2 {R : Type} (L N : Nat) (k0_e0 : LLM → Option R) (k0_r : Bool → LLM → Option R) (rec0 : Int → LLM → LLB → LLM → Option R) (z13 : Int) (z14 : LLM) (z15 : LLB) (z16 : LM) (z17 : LLM) : Option R :=
  f23.p1_e2' L N k0_e0 k0_r rec0 z13 z14 z15 z16 z17
def f23.p1_r' {R : Type} (L N : Nat) (k0_e0 : LLM → Option R) (k0_r : Bool → LLM → Option R) (rec0 : Int → LLM → LLB → LLM → Option R) (z36 : Bool) (z37 : Int) (z38 : LLM) (z39 : LLB) (z40 : LM) (z41 : LLM) : Option R :=
  k0_r z36 z41
def f23.p1_r {R : Type} (L N : Nat) (k0_e0 : LLM → Option R) (k0_r : Bool → LLM → Option R) (rec0 : Int → LLM → LLB → LLM → Option R) (z36 : Bool) (z37 : Int) (z38 : LLM) (z39 : LLB) (z40 : LM) (z41 : LLM) : Option R :=
  f23.p1_r' L N k0_e0 k0_r rec0 z36 z37 z38 z39 z40 z41
def f23.s0' {R : Type} (L N : Nat) (k0_e0 : LLM → Option R) (k0_r : Bool → LLM → Option R) (rec0 : Int → LLM → LLB → LLM → Option R) (w1 : Int → Int → LLM → LLB → LM → LLM → Option R) (s2 : Int) (s3 : LLM) (s4 : LLB) (s5 : LLM) : Option R :=
  bif (decide (s2 < (s4.length : Int))) then
    w1 s2 (-4 : Int) s3 s4 ([] : LM) s5
  else k0_e0 s5
def f23.s0 {R : Type} (L N : Nat) (k0_e0 : LLM → Option R) (k0_r : Bool → LLM → Option R) (rec0 : Int → LLM → LLB → LLM → Option R) (s2 : Int) (s3 : LLM) (s4 : LLB) (s5 : LLM) : Option R :=
  f23.s0' L N k0_e0 k0_r rec0 (fun s7 s8 s9 s10 s11 s12 => f23.l1 L N (fun z13 z14 z15 z16 z17 => f23.p1_e2 L N k0_e0 k0_r rec0 z13 z14 z15 z16 z17) (fun z36 z37 z38 z39 z40 z41 => f23.p1_r L N k0_e0 k0_r rec0 z36 z37 z38 z39 z40 z41) L s7 s8 s9 s10 s11 s12) s2 s3 s4 s5
def f23.l0 {R : Type} (L N : Nat) (k0_e0 : LLM → Option R) (k0_r : Bool → LLM → Option R) : Nat → Int → LLM → LLB → LLM → Option R
  | 0, _, _, _, _ => none
  | n + 1, s2, s3, s4, s5 => f23.s0 L N k0_e0 k0_r (f23.l0 L N k0_e0 k0_r n) s2 s3 s4 s5
def f23.T0 (s2 : Int) (s3 : LLM) (s4 : LLB) (s5 : LLM) : T := mkT 71 [(1, (.ptr 1001 0)), (2, (.ptr 1002 0)), (4, (.row 1017)), (5, (.ptr 1005 0)), (6, (.tv i64 s2))]
def f23.H0 (s2 : Int) (s3 : LLM) (s4 : LLB) (s5 : LLM) : H := [(1001, (.box [(.tv (.sl (.sl (.st 0))) s3)])), (1002, (.box [.nil])), (1005, (.box [(.row 1900)])), (1017, (.row 68 (.sl .bool) s4)), (1900, (.row 46 (.sl (.st 0)) s5))]
def f23.T0_e0 (z6 : LLM) : T := mkT 71 [(2, (.ptr 1002 0)), (5, (.ptr 1005 0))]
def f23.H0_e0 (z6 : LLM) : H := [(1002, (.box [.nil])), (1005, (.box [(.row 1900)])), (1900, (.row 46 (.sl (.st 0)) z6))]
def f23.T0_r (z55 : Bool) (z56 : LLM) : T := mkT 71 [(2, (.ptr 1002 0)), (3, (.tv .bool z55)), (5, (.ptr 1005 0))]
def f23.H0_r (z55 : Bool) (z56 : LLM) : H := [(1002, (.box [.nil])), (1005, (.box [(.row 1900)])), (1900, (.row 46 (.sl (.st 0)) z56))]
def f23.p0_e0' {R : Type} (L N : Nat) (k : Graph → Bool → Option R) (z6 : LLM) : Option R :=
  k (Graph.mk z6) true
def f23.p0_e0 {R : Type} (L N : Nat) (k : Graph → Bool → Option R) (z6 : LLM) : Option R :=
  f23.p0_e0' L N k z6
def f23.p0_r' {R : Type} (L N : Nat) (k : Graph → Bool → Option R) (z55 : Bool) (z56 : LLM) : Option R :=
  k (Graph.mk []) z55
def f23.p0_r {R : Type} (L N : Nat) (k : Graph → Bool → Option R) (z55 : Bool) (z56 : LLM) : Option R :=
  f23.p0_r' L N k z55 z56
def f23.b' {R : Type} (L N : Nat) (k : Graph → Bool → Option R) (w0 : Int → LLM → LLB → LLM → Option R) (x0 : Graph) : Option R :=
  (f9 L N (Graph.mk x0.moves)).bind fun y0 =>
  bif (!y0) then
    k (Graph.mk []) false
  else (f59 L N (Graph.mk x0.moves)).bind fun y1 =>
  w0 (0 : Int) x0.moves ([y1] : LLB) ([] : LLM)
def f23.b {R : Type} (L N : Nat) (k : Graph → Bool → Option R) (x0 : Graph) : Option R :=
  f23.b' L N k (fun s2 s3 s4 s5 => f23.l0 L N (fun z6 => f23.p0_e0 L N k z6) (fun z55 z56 => f23.p0_r L N k z55 z56) L s2 s3 s4 s5) x0
def f23 (L N : Nat) (x0 : Graph) : Option (Graph × Bool) := f23.b L N (fun a0 a1 => some (a0, a1)) x0
def f23.ent (L N : Nat) := entDa [(.st 2)] (.many [(.st 2), .bool]) fun d => f23 L N d.1
noncomputable def E23 (L N : Nat) : Env := { P := Tryz.prog, ty := tyOf, Φ := (Φ62 L N), inl := inlT, live := lives, liveX := livesX, L := L, dp := none, prom := promT, heal := healT, ren := renT }
noncomputable def f23.c0 : Code := loopAt 0 (codeOf Tryz.f23)
noncomputable def f23.c1 : Code := loopAt 2 f23.c0
def f23.X1_e2 {R : Type} (κ : KX R) := fun z13 z14 z15 z16 z17 => κ (.exit 2) (f23.T1_e2 z13 z14 z15 z16 z17) (f23.H1_e2 z13 z14 z15 z16 z17)
def f23.X1_r {R : Type} (κ : KX R) := fun z36 z37 z38 z39 z40 z41 => κ .ret (f23.T1_r z36 z37 z38 z39 z40 z41) (f23.H1_r z36 z37 z38 z39 z40 z41)
def f23.R1 {R : Type} (rec : KT R) := fun s7 s8 s9 s10 s11 s12 => rec (f23.T1 s7 s8 s9 s10 s11 s12) (f23.H1 s7 s8 s9 s10 s11 s12)
theorem f23.s1_eq {R : Type} (L N : Nat) (κ : KX R) (rec : KT R) (s7 : Int) (s8 : Int) (s9 : LLM) (s10 : LLB) (s11 : LM) (s12 : LLM) :
    evRd (E23 L N) (evCallI (E23 L N) 1 2000) 1000 23 71 2 f23.c1 κ rec (f23.T1 s7 s8 s9 s10 s11 s12) (f23.H1 s7 s8 s9 s10 s11 s12)
    = f23.s1 L N (f23.X1_e2 κ) (f23.X1_r κ) (f23.R1 rec) s7 s8 s9 s10 s11 s12 := by kernel_rfl
theorem f23.l1_eq {R : Type} (L N : Nat) (κ : KX R) : ∀ (n : Nat) (s7 : Int) (s8 : Int) (s9 : LLM) (s10 : LLB) (s11 : LM) (s12 : LLM),
    evLp (E23 L N) (evCallI (E23 L N) 1 2000) 1000 23 71 2 f23.c1 κ n (f23.T1 s7 s8 s9 s10 s11 s12) (f23.H1 s7 s8 s9 s10 s11 s12)
    = f23.l1 L N (f23.X1_e2 κ) (f23.X1_r κ) n s7 s8 s9 s10 s11 s12 := by
  intro n
  induction n with
  | zero => intros; rfl
  | succ n ih =>
    intro s7 s8 s9 s10 s11 s12
    rw [evLp_succ, f23.s1_eq]
    delta f23.R1
    simp only [ih]
    rfl
def f23.X0_e0 {R : Type} (κ : KX R) := fun z6 => κ (.exit 0) (f23.T0_e0 z6) (f23.H0_e0 z6)
def f23.X0_r {R : Type} (κ : KX R) := fun z55 z56 => κ .ret (f23.T0_r z55 z56) (f23.H0_r z55 z56)
def f23.R0 {R : Type} (rec : KT R) := fun s2 s3 s4 s5 => rec (f23.T0 s2 s3 s4 s5) (f23.H0 s2 s3 s4 s5)
theorem f23.p1_e2_eq {R : Type} (L N : Nat) (κ : KX R) (rec : KT R) (z13 : Int) (z14 : LLM) (z15 : LLB) (z16 : LM) (z17 : LLM) :
    (contAt (E23 L N) (evCallI (E23 L N) 1 2000) 1000 23 71 2 f23.c0 (rdK (E23 L N) 1000 23 71 0 κ rec)) (.exit 2) (f23.T1_e2 z13 z14 z15 z16 z17) (f23.H1_e2 z13 z14 z15 z16 z17)
    = f23.p1_e2 L N (f23.X0_e0 κ) (f23.X0_r κ) (f23.R0 rec) z13 z14 z15 z16 z17 := by kernel_rfl
theorem f23.p1_r_eq {R : Type} (L N : Nat) (κ : KX R) (rec : KT R) (z36 : Bool) (z37 : Int) (z38 : LLM) (z39 : LLB) (z40 : LM) (z41 : LLM) :
    (contAt (E23 L N) (evCallI (E23 L N) 1 2000) 1000 23 71 2 f23.c0 (rdK (E23 L N) 1000 23 71 0 κ rec)) .ret (f23.T1_r z36 z37 z38 z39 z40 z41) (f23.H1_r z36 z37 z38 z39 z40 z41)
    = f23.p1_r L N (f23.X0_e0 κ) (f23.X0_r κ) (f23.R0 rec) z36 z37 z38 z39 z40 z41 := by kernel_rfl
theorem f23.s0_eq {R : Type} (L N : Nat) (κ : KX R) (rec : KT R) (s2 : Int) (s3 : LLM) (s4 : LLB) (s5 : LLM) :
    evRd (E23 L N) (evCallI (E23 L N) 1 2000) 1000 23 71 0 f23.c0 κ rec (f23.T0 s2 s3 s4 s5) (f23.H0 s2 s3 s4 s5)
    = f23.s0 L N (f23.X0_e0 κ) (f23.X0_r κ) (f23.R0 rec) s2 s3 s4 s5 := by
  refine Eq.trans (b := f23.s0' L N (f23.X0_e0 κ) (f23.X0_r κ) (f23.R0 rec) (fun s7 s8 s9 s10 s11 s12 => evLp (E23 L N) (evCallI (E23 L N) 1 2000) 1000 23 71 2 f23.c1 (contAt (E23 L N) (evCallI (E23 L N) 1 2000) 1000 23 71 2 f23.c0 (rdK (E23 L N) 1000 23 71 0 κ rec)) L (f23.T1 s7 s8 s9 s10 s11 s12) (f23.H1 s7 s8 s9 s10 s11 s12)) s2 s3 s4 s5) (by kernel_rfl) ?_
  unfold f23.s0
  simp only [f23.l1_eq]
  delta f23.X1_e2 f23.X1_r
  simp only [f23.p1_e2_eq, f23.p1_r_eq]
theorem f23.l0_eq {R : Type} (L N : Nat) (κ : KX R) : ∀ (n : Nat) (s2 : Int) (s3 : LLM) (s4 : LLB) (s5 : LLM),
    evLp (E23 L N) (evCallI (E23 L N) 1 2000) 1000 23 71 0 f23.c0 κ n (f23.T0 s2 s3 s4 s5) (f23.H0 s2 s3 s4 s5)
    = f23.l0 L N (f23.X0_e0 κ) (f23.X0_r κ) n s2 s3 s4 s5 := by
  intro n
  induction n with
  | zero => intros; rfl
  | succ n ih =>
    intro s2 s3 s4 s5
    rw [evLp_succ, f23.s0_eq]
    delta f23.R0
    simp only [ih]
    rfl
theorem f23.p0_e0_eq {R : Type} (L N : Nat) (κ : AV → Option R) (z6 : LLM) :
    (contAt (E23 L N) (evCallI (E23 L N) 1 2000) 1000 23 71 0 (codeOf Tryz.f23) (finK (E23 L N) 1000 Tryz.f23 (finC (.many [(.st 2), .bool]) κ))) (.exit 0) (f23.T0_e0 z6) (f23.H0_e0 z6)
    = f23.p0_e0 L N (fun a0 a1 => κ (.tup [(.tv (.st 2) a0), (.tv .bool a1)])) z6 := by kernel_rfl
theorem f23.p0_r_eq {R : Type} (L N : Nat) (κ : AV → Option R) (z55 : Bool) (z56 : LLM) :
    (contAt (E23 L N) (evCallI (E23 L N) 1 2000) 1000 23 71 0 (codeOf Tryz.f23) (finK (E23 L N) 1000 Tryz.f23 (finC (.many [(.st 2), .bool]) κ))) .ret (f23.T0_r z55 z56) (f23.H0_r z55 z56)
    = f23.p0_r L N (fun a0 a1 => κ (.tup [(.tv (.st 2) a0), (.tv .bool a1)])) z55 z56 := by kernel_rfl
theorem f23.b_eq {R : Type} (L N : Nat) (κ : AV → Option R) (x0 : Graph) :
    evBody (E23 L N) (evCallI (E23 L N) 1 2000) 1000 23 Tryz.f23 [(.tv (.st 2) x0)] [] [] (finC (.many [(.st 2), .bool]) κ)
    = f23.b L N (fun a0 a1 => κ (.tup [(.tv (.st 2) a0), (.tv .bool a1)])) x0 := by
  refine Eq.trans (b := f23.b' L N (fun a0 a1 => κ (.tup [(.tv (.st 2) a0), (.tv .bool a1)])) (fun s2 s3 s4 s5 => evLp (E23 L N) (evCallI (E23 L N) 1 2000) 1000 23 71 0 f23.c0 (contAt (E23 L N) (evCallI (E23 L N) 1 2000) 1000 23 71 0 (codeOf Tryz.f23) (finK (E23 L N) 1000 Tryz.f23 (finC (.many [(.st 2), .bool]) κ))) L (f23.T0 s2 s3 s4 s5) (f23.H0 s2 s3 s4 s5)) x0) (by kernel_rfl) ?_
  unfold f23.b
  simp only [f23.l0_eq]
  delta f23.X0_e0 f23.X0_r
  simp only [f23.p0_e0_eq, f23.p0_r_eq]
theorem f23.ok (L N : Nat) (hΦ : TellsOk Tryz.prog ((Φ62 L N))) : EntOk Tryz.prog 23 (f23.ent L N) := entDa_ok (E := (E23 L N)) (dep := 1000) (f := Tryz.f23) (sound_of hΦ) okP (callI_sound (sound_of hΦ) okP 1 2000) rfl fun d _ hy => (f23.b_eq L N (unR (.many [(.st 2), .bool])) d.1).trans (Eq.trans (b := f23.b L N (fun a0 a1 => some (a0, a1)) d.1) (by kernel_rfl) hy)
def Φ23 (L N : Nat) : Tells := (addT (Φ62 L N) 23 (f23.ent L N))
theorem Φ23_ok (L N : Nat) : TellsOk Tryz.prog (Φ23 L N) := addT_ok (Φ62_ok L N) (f23.ok L N (Φ62_ok L N))
def f24.s1' {R : Type} (L N : Nat) (k1_e2 : Int → LLM → LLM → Option R) (k1_r : Bool → Int → LLM → LLM → Option R) (rec1 : Int → Int → LLM → LLM → Option R) (s4 : Int) (s5 : Int) (s6 : LLM) (s7 : LLM) : Option R :=
  bif (decide (0 ≤ s4) && decide (s4 < (s6.length : Int))) then
    bif (decide (s5 < ((listAt s6 [] s4.toNat).length : Int))) then
      bif (decide (0 ≤ s4) && decide (s4 < (s6.length : Int))) then
        bif (decide (0 ≤ s5) && decide (s5 < ((listAt s6 [] s4.toNat).length : Int))) then
          bif (decide (0 ≤ s4) && decide (s4 < (s7.length : Int))) then
            bif (decide (0 ≤ s5) && decide (s5 < ((listAt s7 [] s4.toNat).length : Int))) then
              bif (!(Move.eqb (listAt (listAt s6 [] s4.toNat) (Ty.dflt (.st 0)) s5.toNat) (listAt (listAt s7 [] s4.toNat) (Ty.dflt (.st 0)) s5.toNat))) then
                k1_r false s4 s6 s7
              else rec1 s4 (wi (s5 + (1 : Int))) s6 s7
            else none
          else none
        else none
      else none
    else k1_e2 s4 s6 s7
  else none
def f24.s1 {R : Type} (L N : Nat) (k1_e2 : Int → LLM → LLM → Option R) (k1_r : Bool → Int → LLM → LLM → Option R) (rec1 : Int → Int → LLM → LLM → Option R) (s4 : Int) (s5 : Int) (s6 : LLM) (s7 : LLM) : Option R :=
  f24.s1' L N k1_e2 k1_r rec1 s4 s5 s6 s7
def f24.l1 {R : Type} (L N : Nat) (k1_e2 : Int → LLM → LLM → Option R) (k1_r : Bool → Int → LLM → LLM → Option R) : Nat → Int → Int → LLM → LLM → Option R
  | 0, _, _, _, _ => none
  | n + 1, s4, s5, s6, s7 => f24.s1 L N k1_e2 k1_r (f24.l1 L N k1_e2 k1_r n) s4 s5 s6 s7
def f24.T1 (s4 : Int) (s5 : Int) (s6 : LLM) (s7 : LLM) : T := mkT 61 [(2, (.ptr 1002 0)), (3, (.ptr 1003 0)), (5, (.tv i64 s4)), (6, (.tv i64 s5))]
def f24.H1 (s4 : Int) (s5 : Int) (s6 : LLM) (s7 : LLM) : H := [(1002, (.box [(.tv (.sl (.sl (.st 0))) s6)])), (1003, (.box [(.tv (.sl (.sl (.st 0))) s7)]))]
def f24.T1_e2 (z8 : Int) (z9 : LLM) (z10 : LLM) : T := mkT 61 [(2, (.ptr 1002 0)), (3, (.ptr 1003 0)), (5, (.tv i64 z8))]
def f24.H1_e2 (z8 : Int) (z9 : LLM) (z10 : LLM) : H := [(1002, (.box [(.tv (.sl (.sl (.st 0))) z9)])), (1003, (.box [(.tv (.sl (.sl (.st 0))) z10)]))]
def f24.T1_r (z11 : Bool) (z12 : Int) (z13 : LLM) (z14 : LLM) : T := mkT 61 [(2, (.ptr 1002 0)), (3, (.ptr 1003 0)), (4, (.tv .bool z11)), (5, (.tv i64 z12))]
def f24.H1_r (z11 : Bool) (z12 : Int) (z13 : LLM) (z14 : LLM) : H := [(1002, (.box [(.tv (.sl (.sl (.st 0))) z13)])), (1003, (.box [(.tv (.sl (.sl (.st 0))) z14)]))]
def f24.p1_e2' {R : Type} (L N : Nat) (k0_e0 : Option R) (k0_r : Bool → Option R) (rec0 : Int → LLM → LLM → Option R) (z8 : Int) (z9 : LLM) (z10 : LLM) : Option R :=
  rec0 (wi (z8 + (1 : Int))) z9 z10
def f24.p1_e2 {R : Type} (L N : Nat) (k0_e0 : Option R) (k0_r : Bool → Option R) (rec0 : Int → LLM → LLM → Option R) (z8 : Int) (z9 : LLM) (z10 : LLM) : Option R :=
  f24.p1_e2' L N k0_e0 k0_r rec0 z8 z9 z10
def f24.p1_r' {R : Type} (L N : Nat) (k0_e0 : Option R) (k0_r : Bool → Option R) (rec0 : Int → LLM → LLM → Option R) (z11 : Bool) (z12 : Int) (z13 : LLM) (z14 : LLM) : Option R :=
  k0_r z11
def f24.p1_r {R : Type} (L N : Nat) (k0_e0 : Option R) (k0_r : Bool → Option R) (rec0 : Int → LLM → LLM → Option R) (z11 : Bool) (z12 : Int) (z13 : LLM) (z14 : LLM) : Option R :=
  f24.p1_r' L N k0_e0 k0_r rec0 z11 z12 z13 z14
def f24.s0' {R : Type} (L N : Nat) (k0_e0 : Option R) (k0_r : Bool → Option R) (rec0 : Int → LLM → LLM → Option R) (w1 : Int → Int → LLM → LLM → Option R) (s0 : Int) (s1 : LLM) (s2 : LLM) : Option R :=
  bif (decide (s0 < (s1.length : Int))) then
    bif (decide (0 ≤ s0) && decide (s0 < (s1.length : Int))) then
      bif (decide (0 ≤ s0) && decide (s0 < (s2.length : Int))) then
        bif (((listAt s1 [] s0.toNat).length : Int) != ((listAt s2 [] s0.toNat).length : Int)) then
          k0_r false
        else w1 s0 (0 : Int) s1 s2
      else none
    else none
  else k0_e0
def f24.s0 {R : Type} (L N : Nat) (k0_e0 : Option R) (k0_r : Bool → Option R) (rec0 : Int → LLM → LLM → Option R) (s0 : Int) (s1 : LLM) (s2 : LLM) : Option R :=
  f24.s0' L N k0_e0 k0_r rec0 (fun s4 s5 s6 s7 => f24.l1 L N (fun z8 z9 z10 => f24.p1_e2 L N k0_e0 k0_r rec0 z8 z9 z10) (fun z11 z12 z13 z14 => f24.p1_r L N k0_e0 k0_r rec0 z11 z12 z13 z14) L s4 s5 s6 s7) s0 s1 s2
def f24.l0 {R : Type} (L N : Nat) (k0_e0 : Option R) (k0_r : Bool → Option R) : Nat → Int → LLM → LLM → Option R
  | 0, _, _, _ => none
  | n + 1, s0, s1, s2 => f24.s0 L N k0_e0 k0_r (f24.l0 L N k0_e0 k0_r n) s0 s1 s2
def f24.T0 (s0 : Int) (s1 : LLM) (s2 : LLM) : T := mkT 61 [(2, (.ptr 1002 0)), (3, (.ptr 1003 0)), (5, (.tv i64 s0))]
def f24.H0 (s0 : Int) (s1 : LLM) (s2 : LLM) : H := [(1002, (.box [(.tv (.sl (.sl (.st 0))) s1)])), (1003, (.box [(.tv (.sl (.sl (.st 0))) s2)]))]
def f24.T0_e0 : T := mkT 61 []
def f24.H0_e0 : H := []
def f24.T0_r (z3 : Bool) : T := mkT 61 [(4, (.tv .bool z3))]
def f24.H0_r (z3 : Bool) : H := []
def f24.p0_e0' {R : Type} (L N : Nat) (k : Bool → Option R) : Option R :=
  k true
def f24.p0_e0 {R : Type} (L N : Nat) (k : Bool → Option R) : Option R :=
  f24.p0_e0' L N k
def f24.p0_r' {R : Type} (L N : Nat) (k : Bool → Option R) (z3 : Bool) : Option R :=
  k z3
def f24.p0_r {R : Type} (L N : Nat) (k : Bool → Option R) (z3 : Bool) : Option R :=
  f24.p0_r' L N k z3
def f24.b' {R : Type} (L N : Nat) (k : Bool → Option R) (w0 : Int → LLM → LLM → Option R) (x0 : Graph) (x1 : Graph) : Option R :=
  bif ((x0.moves.length : Int) != (x1.moves.length : Int)) then
    k false
  else w0 (0 : Int) x0.moves x1.moves
def f24.b {R : Type} (L N : Nat) (k : Bool → Option R) (x0 : Graph) (x1 : Graph) : Option R :=
  f24.b' L N k (fun s0 s1 s2 => f24.l0 L N (f24.p0_e0 L N k) (fun z3 => f24.p0_r L N k z3) L s0 s1 s2) x0 x1
def f24 (L N : Nat) (x0 : Graph) (x1 : Graph) : Option (Bool) := f24.b L N some x0 x1
def f24.ent (L N : Nat) := entRo [(.st 2), (.st 2)] (.one .bool) fun d => f24 L N d.1 d.2.1
noncomputable def E24 (L N : Nat) : Env := { P := Tryz.prog, ty := tyOf, Φ := (Φ23 L N), inl := inlT, live := lives, liveX := livesX, L := L, dp := none, prom := promT, heal := healT, ren := renT }
noncomputable def f24.c0 : Code := loopAt 0 (codeOf Tryz.f24)
noncomputable def f24.c1 : Code := loopAt 2 f24.c0
def f24.X1_e2 {R : Type} (κ : KX R) := fun z8 z9 z10 => κ (.exit 2) (f24.T1_e2 z8 z9 z10) (f24.H1_e2 z8 z9 z10)
def f24.X1_r {R : Type} (κ : KX R) := fun z11 z12 z13 z14 => κ .ret (f24.T1_r z11 z12 z13 z14) (f24.H1_r z11 z12 z13 z14)
def f24.R1 {R : Type} (rec : KT R) := fun s4 s5 s6 s7 => rec (f24.T1 s4 s5 s6 s7) (f24.H1 s4 s5 s6 s7)
theorem f24.s1_eq {R : Type} (L N : Nat) (κ : KX R) (rec : KT R) (s4 : Int) (s5 : Int) (s6 : LLM) (s7 : LLM) :
    evRd (E24 L N) (evCallI (E24 L N) 1 2000) 1000 24 61 2 f24.c1 κ rec (f24.T1 s4 s5 s6 s7) (f24.H1 s4 s5 s6 s7)
    = f24.s1 L N (f24.X1_e2 κ) (f24.X1_r κ) (f24.R1 rec) s4 s5 s6 s7 := by kernel_rfl
theorem f24.l1_eq {R : Type} (L N : Nat) (κ : KX R) : ∀ (n : Nat) (s4 : Int) (s5 : Int) (s6 : LLM) (s7 : LLM),
    evLp (E24 L N) (evCallI (E24 L N) 1 2000) 1000 24 61 2 f24.c1 κ n (f24.T1 s4 s5 s6 s7) (f24.H1 s4 s5 s6 s7)
    = f24.l1 L N (f24.X1_e2 κ) (f24.X1_r κ) n s4 s5 s6 s7 := by
  intro n
  induction n with
  | zero => intros; rfl
  | succ n ih =>
    intro s4 s5 s6 s7
    rw [evLp_succ, f24.s1_eq]
    delta f24.R1
    simp only [ih]
    rfl
def f24.X0_e0 {R : Type} (κ : KX R) := κ (.exit 0) f24.T0_e0 f24.H0_e0
def f24.X0_r {R : Type} (κ : KX R) := fun z3 => κ .ret (f24.T0_r z3) (f24.H0_r z3)
def f24.R0 {R : Type} (rec : KT R) := fun s0 s1 s2 => rec (f24.T0 s0 s1 s2) (f24.H0 s0 s1 s2)
theorem f24.p1_e2_eq {R : Type} (L N : Nat) (κ : KX R) (rec : KT R) (z8 : Int) (z9 : LLM) (z10 : LLM) :
    (contAt (E24 L N) (evCallI (E24 L N) 1 2000) 1000 24 61 2 f24.c0 (rdK (E24 L N) 1000 24 61 0 κ rec)) (.exit 2) (f24.T1_e2 z8 z9 z10) (f24.H1_e2 z8 z9 z10)
    = f24.p1_e2 L N (f24.X0_e0 κ) (f24.X0_r κ) (f24.R0 rec) z8 z9 z10 := by kernel_rfl
theorem f24.p1_r_eq {R : Type} (L N : Nat) (κ : KX R) (rec : KT R) (z11 : Bool) (z12 : Int) (z13 : LLM) (z14 : LLM) :
    (contAt (E24 L N) (evCallI (E24 L N) 1 2000) 1000 24 61 2 f24.c0 (rdK (E24 L N) 1000 24 61 0 κ rec)) .ret (f24.T1_r z11 z12 z13 z14) (f24.H1_r z11 z12 z13 z14)
    = f24.p1_r L N (f24.X0_e0 κ) (f24.X0_r κ) (f24.R0 rec) z11 z12 z13 z14 := by kernel_rfl
theorem f24.s0_eq {R : Type} (L N : Nat) (κ : KX R) (rec : KT R) (s0 : Int) (s1 : LLM) (s2 : LLM) :
    evRd (E24 L N) (evCallI (E24 L N) 1 2000) 1000 24 61 0 f24.c0 κ rec (f24.T0 s0 s1 s2) (f24.H0 s0 s1 s2)
    = f24.s0 L N (f24.X0_e0 κ) (f24.X0_r κ) (f24.R0 rec) s0 s1 s2 := by
  refine Eq.trans (b := f24.s0' L N (f24.X0_e0 κ) (f24.X0_r κ) (f24.R0 rec) (fun s4 s5 s6 s7 => evLp (E24 L N) (evCallI (E24 L N) 1 2000) 1000 24 61 2 f24.c1 (contAt (E24 L N) (evCallI (E24 L N) 1 2000) 1000 24 61 2 f24.c0 (rdK (E24 L N) 1000 24 61 0 κ rec)) L (f24.T1 s4 s5 s6 s7) (f24.H1 s4 s5 s6 s7)) s0 s1 s2) (by kernel_rfl) ?_
  unfold f24.s0
  simp only [f24.l1_eq]
  delta f24.X1_e2 f24.X1_r
  simp only [f24.p1_e2_eq, f24.p1_r_eq]
theorem f24.l0_eq {R : Type} (L N : Nat) (κ : KX R) : ∀ (n : Nat) (s0 : Int) (s1 : LLM) (s2 : LLM),
    evLp (E24 L N) (evCallI (E24 L N) 1 2000) 1000 24 61 0 f24.c0 κ n (f24.T0 s0 s1 s2) (f24.H0 s0 s1 s2)
    = f24.l0 L N (f24.X0_e0 κ) (f24.X0_r κ) n s0 s1 s2 := by
  intro n
  induction n with
  | zero => intros; rfl
  | succ n ih =>
    intro s0 s1 s2
    rw [evLp_succ, f24.s0_eq]
    delta f24.R0
    simp only [ih]
    rfl
theorem f24.p0_e0_eq {R : Type} (L N : Nat) (κ : AV → Option R) :
    (contAt (E24 L N) (evCallI (E24 L N) 1 2000) 1000 24 61 0 (codeOf Tryz.f24) (finK (E24 L N) 1000 Tryz.f24 (finC (.one .bool) κ))) (.exit 0) f24.T0_e0 f24.H0_e0
    = f24.p0_e0 L N (fun a0 => κ (.tv .bool a0)) := by kernel_rfl
theorem f24.p0_r_eq {R : Type} (L N : Nat) (κ : AV → Option R) (z3 : Bool) :
    (contAt (E24 L N) (evCallI (E24 L N) 1 2000) 1000 24 61 0 (codeOf Tryz.f24) (finK (E24 L N) 1000 Tryz.f24 (finC (.one .bool) κ))) .ret (f24.T0_r z3) (f24.H0_r z3)
    = f24.p0_r L N (fun a0 => κ (.tv .bool a0)) z3 := by kernel_rfl
theorem f24.b_eq {R : Type} (L N : Nat) (κ : AV → Option R) (x0 : Graph) (x1 : Graph) :
    evBody (E24 L N) (evCallI (E24 L N) 1 2000) 1000 24 Tryz.f24 [(.tv (.st 2) x0), (.tv (.st 2) x1)] [] [] (finC (.one .bool) κ)
    = f24.b L N (fun a0 => κ (.tv .bool a0)) x0 x1 := by
  refine Eq.trans (b := f24.b' L N (fun a0 => κ (.tv .bool a0)) (fun s0 s1 s2 => evLp (E24 L N) (evCallI (E24 L N) 1 2000) 1000 24 61 0 f24.c0 (contAt (E24 L N) (evCallI (E24 L N) 1 2000) 1000 24 61 0 (codeOf Tryz.f24) (finK (E24 L N) 1000 Tryz.f24 (finC (.one .bool) κ))) L (f24.T0 s0 s1 s2) (f24.H0 s0 s1 s2)) x0 x1) (by kernel_rfl) ?_
  unfold f24.b
  simp only [f24.l0_eq]
  delta f24.X0_e0 f24.X0_r
  simp only [f24.p0_e0_eq, f24.p0_r_eq]
theorem f24.ok (L N : Nat) (hΦ : TellsOk Tryz.prog ((Φ23 L N))) : EntOk Tryz.prog 24 (f24.ent L N) := entRo_ok (E := (E24 L N)) (dep := 1000) (f := Tryz.f24) (sound_of hΦ) okP (callI_sound (sound_of hΦ) okP 1 2000) rfl rfl fun d _ hy => (f24.b_eq L N (unR (.one .bool)) d.1 d.2.1).trans (Eq.trans (b := f24.b L N some d.1 d.2.1) (by kernel_rfl) hy)
def Φ24 (L N : Nat) : Tells := (addT (Φ23 L N) 24 (f24.ent L N))
theorem Φ24_ok (L N : Nat) : TellsOk Tryz.prog (Φ24 L N) := addT_ok (Φ23_ok L N) (f24.ok L N (Φ23_ok L N))
def f4.s1' {R : Type} (L N : Nat) (k1_e2 : Int → LLM → LLM → Option R) (k1_r : Bool → Int → LLM → LLM → Option R) (rec1 : Int → Int → LLM → LLM → Option R) (s16 : Int) (s17 : Int) (s18 : LLM) (s19 : LLM) : Option R :=
  bif (decide (0 ≤ s16) && decide (s16 < (s19.length : Int))) then
    bif (decide (s17 < ((listAt s19 [] s16.toNat).length : Int))) then
      bif (decide (0 ≤ s16) && decide (s16 < (s19.length : Int))) then
        bif (decide (0 ≤ s17) && decide (s17 < ((listAt s19 [] s16.toNat).length : Int))) then
          bif ((listAt (listAt s19 [] s16.toNat) (Ty.dflt (.st 0)) s17.toNat).act == (0 : Int)) then
            k1_r false s16 s18 s19
          else bif (decide (s17 > (0 : Int))) then
            bif (decide (0 ≤ s16) && decide (s16 < (s19.length : Int))) then
              bif (decide (0 ≤ (wi (s17 - (1 : Int)))) && decide ((wi (s17 - (1 : Int))) < ((listAt s19 [] s16.toNat).length : Int))) then
                bif (decide (0 ≤ s16) && decide (s16 < (s19.length : Int))) then
                  bif (decide (0 ≤ s17) && decide (s17 < ((listAt s19 [] s16.toNat).length : Int))) then
                    bif ((listAt (listAt s19 [] s16.toNat) (Ty.dflt (.st 0)) (wi (s17 - (1 : Int))).toNat).act == (listAt (listAt s19 [] s16.toNat) (Ty.dflt (.st 0)) s17.toNat).act) then
                      k1_r false s16 s18 s19
                    else rec1 s16 (wi (s17 + (1 : Int))) s18 s19
                  else none
                else none
              else none
            else none
          else rec1 s16 (wi (s17 + (1 : Int))) s18 s19
        else none
      else none
    else k1_e2 s16 s18 s19
  else none
def f4.s1 {R : Type} (L N : Nat) (k1_e2 : Int → LLM → LLM → Option R) (k1_r : Bool → Int → LLM → LLM → Option R) (rec1 : Int → Int → LLM → LLM → Option R) (s16 : Int) (s17 : Int) (s18 : LLM) (s19 : LLM) : Option R :=
  f4.s1' L N k1_e2 k1_r rec1 s16 s17 s18 s19
def f4.l1 {R : Type} (L N : Nat) (k1_e2 : Int → LLM → LLM → Option R) (k1_r : Bool → Int → LLM → LLM → Option R) : Nat → Int → Int → LLM → LLM → Option R
  | 0, _, _, _, _ => none
  | n + 1, s16, s17, s18, s19 => f4.s1 L N k1_e2 k1_r (f4.l1 L N k1_e2 k1_r n) s16 s17 s18 s19
def f4.T1 (s16 : Int) (s17 : Int) (s18 : LLM) (s19 : LLM) : T := mkT 115 [(3, (.ptr 1003 0)), (4, (.ptr 1004 0)), (8, (.tv i64 s16)), (9, (.tv i64 s17))]
def f4.H1 (s16 : Int) (s17 : Int) (s18 : LLM) (s19 : LLM) : H := [(1003, (.box [(.tv (.sl (.sl (.st 0))) s18)])), (1004, (.box [(.tv (.sl (.sl (.st 0))) s19)]))]
def f4.T1_e2 (z20 : Int) (z21 : LLM) (z22 : LLM) : T := mkT 115 [(3, (.ptr 1003 0)), (4, (.ptr 1004 0)), (8, (.tv i64 z20))]
def f4.H1_e2 (z20 : Int) (z21 : LLM) (z22 : LLM) : H := [(1003, (.box [(.tv (.sl (.sl (.st 0))) z21)])), (1004, (.box [(.tv (.sl (.sl (.st 0))) z22)]))]
def f4.T1_r (z28 : Bool) (z29 : Int) (z30 : LLM) (z31 : LLM) : T := mkT 115 [(2, (.tv .bool z28)), (3, (.ptr 1003 0)), (4, (.ptr 1004 0)), (8, (.tv i64 z29))]
def f4.H1_r (z28 : Bool) (z29 : Int) (z30 : LLM) (z31 : LLM) : H := [(1003, (.box [(.tv (.sl (.sl (.st 0))) z30)])), (1004, (.box [(.tv (.sl (.sl (.st 0))) z31)]))]
def f4.p1_e2' {R : Type} (L N : Nat) (k0_e0 : LLM → LLM → Option R) (k0_r : Bool → LLM → LLM → Option R) (rec0 : Int → LLM → LLM → Option R) (z20 : Int) (z21 : LLM) (z22 : LLM) : Option R :=
  rec0 (wi (z20 + (1 : Int))) z21 z22
def f4.p1_e2 {R : Type} (L N : Nat) (k0_e0 : LLM → LLM → Option R) (k0_r : Bool → LLM → LLM → Option R) (rec0 : Int → LLM → LLM → Option R) (z20 : Int) (z21 : LLM) (z22 : LLM) : Option R :=
  f4.p1_e2' L N k0_e0 k0_r rec0 z20 z21 z22
def f4.p1_r' {R : Type} (L N : Nat) (k0_e0 : LLM → LLM → Option R) (k0_r : Bool → LLM → LLM → Option R) (rec0 : Int → LLM → LLM → Option R) (z28 : Bool) (z29 : Int) (z30 : LLM) (z31 : LLM) : Option R :=
  k0_r z28 z30 z31
def f4.p1_r {R : Type} (L N : Nat) (k0_e0 : LLM → LLM → Option R) (k0_r : Bool → LLM → LLM → Option R) (rec0 : Int → LLM → LLM → Option R) (z28 : Bool) (z29 : Int) (z30 : LLM) (z31 : LLM) : Option R :=
  f4.p1_r' L N k0_e0 k0_r rec0 z28 z29 z30 z31
def f4.s0' {R : Type} (L N : Nat) (k0_e0 : LLM → LLM → Option R) (k0_r : Bool → LLM → LLM → Option R) (rec0 : Int → LLM → LLM → Option R) (w1 : Int → Int → LLM → LLM → Option R) (s11 : Int) (s12 : LLM) (s13 : LLM) : Option R :=
  bif (decide (s11 < (s13.length : Int))) then
    w1 s11 (0 : Int) s12 s13
  else k0_e0 s12 s13
def f4.s0 {R : Type} (L N : Nat) (k0_e0 : LLM → LLM → Option R) (k0_r : Bool → LLM → LLM → Option R) (rec0 : Int → LLM → LLM → Option R) (s11 : Int) (s12 : LLM) (s13 : LLM) : Option R :=
  f4.s0' L N k0_e0 k0_r rec0 (fun s16 s17 s18 s19 => f4.l1 L N (fun z20 z21 z22 => f4.p1_e2 L N k0_e0 k0_r rec0 z20 z21 z22) (fun z28 z29 z30 z31 => f4.p1_r L N k0_e0 k0_r rec0 z28 z29 z30 z31) L s16 s17 s18 s19) s11 s12 s13
def f4.l0 {R : Type} (L N : Nat) (k0_e0 : LLM → LLM → Option R) (k0_r : Bool → LLM → LLM → Option R) : Nat → Int → LLM → LLM → Option R
  | 0, _, _, _ => none
  | n + 1, s11, s12, s13 => f4.s0 L N k0_e0 k0_r (f4.l0 L N k0_e0 k0_r n) s11 s12 s13
def f4.T0 (s11 : Int) (s12 : LLM) (s13 : LLM) : T := mkT 115 [(3, (.ptr 1003 0)), (4, (.ptr 1004 0)), (8, (.tv i64 s11))]
def f4.H0 (s11 : Int) (s12 : LLM) (s13 : LLM) : H := [(1003, (.box [(.tv (.sl (.sl (.st 0))) s12)])), (1004, (.box [(.tv (.sl (.sl (.st 0))) s13)]))]
def f4.T0_e0 (z14 : LLM) (z15 : LLM) : T := mkT 115 [(3, (.ptr 1003 0)), (4, (.ptr 1004 0))]
def f4.H0_e0 (z14 : LLM) (z15 : LLM) : H := [(1003, (.box [(.tv (.sl (.sl (.st 0))) z14)])), (1004, (.box [(.tv (.sl (.sl (.st 0))) z15)]))]
def f4.T0_r (z36 : Bool) (z37 : LLM) (z38 : LLM) : T := mkT 115 [(2, (.tv .bool z36)), (3, (.ptr 1003 0)), (4, (.ptr 1004 0))]
def f4.H0_r (z36 : Bool) (z37 : LLM) (z38 : LLM) : H := [(1003, (.box [(.tv (.sl (.sl (.st 0))) z37)])), (1004, (.box [(.tv (.sl (.sl (.st 0))) z38)]))]
def f4.p0_e0' {R : Type} (L N : Nat) (k : Bool → Option R) (z14 : LLM) (z15 : LLM) : Option R :=
  (f21 L N (Graph.mk z14) (Graph.mk z15)).bind fun y39 =>
  (f21 L N (Graph.mk z15) (Graph.mk z14)).bind fun y40 =>
  (f8 L N (Graph.mk z15)).bind fun y41 =>
  bif y41 then
    bif (!y39.2) then
      k (!y40.2)
    else k false
  else k false
def f4.p0_e0 {R : Type} (L N : Nat) (k : Bool → Option R) (z14 : LLM) (z15 : LLM) : Option R :=
  f4.p0_e0' L N k z14 z15
def f4.p0_r' {R : Type} (L N : Nat) (k : Bool → Option R) (z36 : Bool) (z37 : LLM) (z38 : LLM) : Option R :=
  k z36
def f4.p0_r {R : Type} (L N : Nat) (k : Bool → Option R) (z36 : Bool) (z37 : LLM) (z38 : LLM) : Option R :=
  f4.p0_r' L N k z36 z37 z38
def f4.j0' {R : Type} (L N : Nat) (k : Bool → Option R) (w0 : Int → LLM → LLM → Option R) (v8 : Bool) (v9 : LLM) (v10 : LLM) : Option R :=
  bif (!v8) then
    k true
  else w0 (0 : Int) v9 v10
def f4.b' {R : Type} (L N : Nat) (k : Bool → Option R) (w0 : Int → LLM → LLM → Option R) (x0 : LI) : Option R :=
  bif (decide ((x0.length : Int) > (1048576 : Int))) then
    k true
  else (f22 L N x0).bind fun y0 =>
  (f20 L N (Graph.mk y0.moves)).bind fun y1 =>
  (f23 L N (Graph.mk y0.moves)).bind fun y2 =>
  (f24 L N (Graph.mk y1.1.moves) (Graph.mk y2.1.moves)).bind fun y3 =>
  bif (!y3) then
    k false
  else bif (!(y1.2 == y2.2)) then
    k false
  else f4.j0' L N k w0 y1.2 y0.moves y1.1.moves
def f4.b {R : Type} (L N : Nat) (k : Bool → Option R) (x0 : LI) : Option R :=
  f4.b' L N k (fun s11 s12 s13 => f4.l0 L N (fun z14 z15 => f4.p0_e0 L N k z14 z15) (fun z36 z37 z38 => f4.p0_r L N k z36 z37 z38) L s11 s12 s13) x0
def f4 (L N : Nat) (x0 : LI) : Option (Bool) := f4.b L N some x0
def f4.ent (L N : Nat) := entRo [(.sl (.int .u8))] (.one .bool) fun d => f4 L N d.1
noncomputable def E4 (L N : Nat) : Env := { P := Tryz.prog, ty := tyOf, Φ := (Φ24 L N), inl := inlT, live := lives, liveX := livesX, L := L, dp := none, prom := promT, heal := healT, ren := renT }
noncomputable def f4.c0 : Code := loopAt 0 (codeOf Tryz.f4)
noncomputable def f4.c1 : Code := loopAt 2 f4.c0
def f4.X1_e2 {R : Type} (κ : KX R) := fun z20 z21 z22 => κ (.exit 2) (f4.T1_e2 z20 z21 z22) (f4.H1_e2 z20 z21 z22)
def f4.X1_r {R : Type} (κ : KX R) := fun z28 z29 z30 z31 => κ .ret (f4.T1_r z28 z29 z30 z31) (f4.H1_r z28 z29 z30 z31)
def f4.R1 {R : Type} (rec : KT R) := fun s16 s17 s18 s19 => rec (f4.T1 s16 s17 s18 s19) (f4.H1 s16 s17 s18 s19)
theorem f4.s1_eq {R : Type} (L N : Nat) (κ : KX R) (rec : KT R) (s16 : Int) (s17 : Int) (s18 : LLM) (s19 : LLM) :
    evRd (E4 L N) (evCallI (E4 L N) 1 2000) 1000 4 115 2 f4.c1 κ rec (f4.T1 s16 s17 s18 s19) (f4.H1 s16 s17 s18 s19)
    = f4.s1 L N (f4.X1_e2 κ) (f4.X1_r κ) (f4.R1 rec) s16 s17 s18 s19 := by kernel_rfl
theorem f4.l1_eq {R : Type} (L N : Nat) (κ : KX R) : ∀ (n : Nat) (s16 : Int) (s17 : Int) (s18 : LLM) (s19 : LLM),
    evLp (E4 L N) (evCallI (E4 L N) 1 2000) 1000 4 115 2 f4.c1 κ n (f4.T1 s16 s17 s18 s19) (f4.H1 s16 s17 s18 s19)
    = f4.l1 L N (f4.X1_e2 κ) (f4.X1_r κ) n s16 s17 s18 s19 := by
  intro n
  induction n with
  | zero => intros; rfl
  | succ n ih =>
    intro s16 s17 s18 s19
    rw [evLp_succ, f4.s1_eq]
    delta f4.R1
    simp only [ih]
    rfl
def f4.X0_e0 {R : Type} (κ : KX R) := fun z14 z15 => κ (.exit 0) (f4.T0_e0 z14 z15) (f4.H0_e0 z14 z15)
def f4.X0_r {R : Type} (κ : KX R) := fun z36 z37 z38 => κ .ret (f4.T0_r z36 z37 z38) (f4.H0_r z36 z37 z38)
def f4.R0 {R : Type} (rec : KT R) := fun s11 s12 s13 => rec (f4.T0 s11 s12 s13) (f4.H0 s11 s12 s13)
theorem f4.p1_e2_eq {R : Type} (L N : Nat) (κ : KX R) (rec : KT R) (z20 : Int) (z21 : LLM) (z22 : LLM) :
    (contAt (E4 L N) (evCallI (E4 L N) 1 2000) 1000 4 115 2 f4.c0 (rdK (E4 L N) 1000 4 115 0 κ rec)) (.exit 2) (f4.T1_e2 z20 z21 z22) (f4.H1_e2 z20 z21 z22)
    = f4.p1_e2 L N (f4.X0_e0 κ) (f4.X0_r κ) (f4.R0 rec) z20 z21 z22 := by kernel_rfl
theorem f4.p1_r_eq {R : Type} (L N : Nat) (κ : KX R) (rec : KT R) (z28 : Bool) (z29 : Int) (z30 : LLM) (z31 : LLM) :
    (contAt (E4 L N) (evCallI (E4 L N) 1 2000) 1000 4 115 2 f4.c0 (rdK (E4 L N) 1000 4 115 0 κ rec)) .ret (f4.T1_r z28 z29 z30 z31) (f4.H1_r z28 z29 z30 z31)
    = f4.p1_r L N (f4.X0_e0 κ) (f4.X0_r κ) (f4.R0 rec) z28 z29 z30 z31 := by kernel_rfl
theorem f4.s0_eq {R : Type} (L N : Nat) (κ : KX R) (rec : KT R) (s11 : Int) (s12 : LLM) (s13 : LLM) :
    evRd (E4 L N) (evCallI (E4 L N) 1 2000) 1000 4 115 0 f4.c0 κ rec (f4.T0 s11 s12 s13) (f4.H0 s11 s12 s13)
    = f4.s0 L N (f4.X0_e0 κ) (f4.X0_r κ) (f4.R0 rec) s11 s12 s13 := by
  refine Eq.trans (b := f4.s0' L N (f4.X0_e0 κ) (f4.X0_r κ) (f4.R0 rec) (fun s16 s17 s18 s19 => evLp (E4 L N) (evCallI (E4 L N) 1 2000) 1000 4 115 2 f4.c1 (contAt (E4 L N) (evCallI (E4 L N) 1 2000) 1000 4 115 2 f4.c0 (rdK (E4 L N) 1000 4 115 0 κ rec)) L (f4.T1 s16 s17 s18 s19) (f4.H1 s16 s17 s18 s19)) s11 s12 s13) (by kernel_rfl) ?_
  unfold f4.s0
  simp only [f4.l1_eq]
  delta f4.X1_e2 f4.X1_r
  simp only [f4.p1_e2_eq, f4.p1_r_eq]
theorem f4.l0_eq {R : Type} (L N : Nat) (κ : KX R) : ∀ (n : Nat) (s11 : Int) (s12 : LLM) (s13 : LLM),
    evLp (E4 L N) (evCallI (E4 L N) 1 2000) 1000 4 115 0 f4.c0 κ n (f4.T0 s11 s12 s13) (f4.H0 s11 s12 s13)
    = f4.l0 L N (f4.X0_e0 κ) (f4.X0_r κ) n s11 s12 s13 := by
  intro n
  induction n with
  | zero => intros; rfl
  | succ n ih =>
    intro s11 s12 s13
    rw [evLp_succ, f4.s0_eq]
    delta f4.R0
    simp only [ih]
    rfl
theorem f4.p0_e0_eq {R : Type} (L N : Nat) (κ : AV → Option R) (z14 : LLM) (z15 : LLM) :
    (contAt (E4 L N) (evCallI (E4 L N) 1 2000) 1000 4 115 0 (codeOf Tryz.f4) (finK (E4 L N) 1000 Tryz.f4 (finC (.one .bool) κ))) (.exit 0) (f4.T0_e0 z14 z15) (f4.H0_e0 z14 z15)
    = f4.p0_e0 L N (fun a0 => κ (.tv .bool a0)) z14 z15 := by kernel_rfl
theorem f4.p0_r_eq {R : Type} (L N : Nat) (κ : AV → Option R) (z36 : Bool) (z37 : LLM) (z38 : LLM) :
    (contAt (E4 L N) (evCallI (E4 L N) 1 2000) 1000 4 115 0 (codeOf Tryz.f4) (finK (E4 L N) 1000 Tryz.f4 (finC (.one .bool) κ))) .ret (f4.T0_r z36 z37 z38) (f4.H0_r z36 z37 z38)
    = f4.p0_r L N (fun a0 => κ (.tv .bool a0)) z36 z37 z38 := by kernel_rfl
theorem f4.b_eq {R : Type} (L N : Nat) (κ : AV → Option R) (x0 : LI) :
    evBody (E4 L N) (evCallI (E4 L N) 1 2000) 1000 4 Tryz.f4 [(.tv (.sl (.int .u8)) x0)] [] [] (finC (.one .bool) κ)
    = f4.b L N (fun a0 => κ (.tv .bool a0)) x0 := by
  refine Eq.trans (b := f4.b' L N (fun a0 => κ (.tv .bool a0)) (fun s11 s12 s13 => evLp (E4 L N) (evCallI (E4 L N) 1 2000) 1000 4 115 0 f4.c0 (contAt (E4 L N) (evCallI (E4 L N) 1 2000) 1000 4 115 0 (codeOf Tryz.f4) (finK (E4 L N) 1000 Tryz.f4 (finC (.one .bool) κ))) L (f4.T0 s11 s12 s13) (f4.H0 s11 s12 s13)) x0) (by kernel_rfl) ?_
  unfold f4.b
  simp only [f4.l0_eq]
  delta f4.X0_e0 f4.X0_r
  simp only [f4.p0_e0_eq, f4.p0_r_eq]
theorem f4.ok (L N : Nat) (hΦ : TellsOk Tryz.prog ((Φ24 L N))) : EntOk Tryz.prog 4 (f4.ent L N) := entRo_ok (E := (E4 L N)) (dep := 1000) (f := Tryz.f4) (sound_of hΦ) okP (callI_sound (sound_of hΦ) okP 1 2000) rfl rfl fun d _ hy => (f4.b_eq L N (unR (.one .bool)) d.1).trans (Eq.trans (b := f4.b L N some d.1) (by kernel_rfl) hy)
def Φ4 (L N : Nat) : Tells := (addT (Φ24 L N) 4 (f4.ent L N))
theorem Φ4_ok (L N : Nat) : TellsOk Tryz.prog (Φ4 L N) := addT_ok (Φ24_ok L N) (f4.ok L N (Φ24_ok L N))
end Go.Proofs.YtffkhhblppfbfaaGreatDoor.Ev
