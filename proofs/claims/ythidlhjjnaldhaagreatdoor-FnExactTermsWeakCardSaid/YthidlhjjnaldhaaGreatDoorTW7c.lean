/- The seat's functions as plain functions, continued: made by program (wip/gen/gen.py). -/
import Derived.Test.YthidlhjjnaldhaaGreatDoorTW7b
namespace Go.Proofs.YthidlhjjnaldhaaGreatDoor.Ev
open Go
set_option linter.unusedVariables false
set_option maxRecDepth 20000
theorem Φ77_ok (L N:Nat):TellsOk Tryz.prog (Φ77 L N):=addT_ok (Φ43_ok L N) (f77.ok L N (Φ43_ok L N))
def f45.s3' {R:Type} (L N:Nat) (k3_e6:Bool→LLB→Int→Int→Int→LLM→LM→LLM→Option R) (rec3:Bool→LLB→Int→Int→Int→Int→LLM→Int→Int→LM→LLM→Option R) (s42:Bool) (s43:LLB) (s44:Int) (s45:Int) (s46:Int) (s47:Int) (s48:LLM) (s49:Int) (s50:Int) (s51:LM) (s52:LLM):Option R:=
 bif (decide (s47<(s48.length:Int))) then
  bif (decide (0≤s50)&&decide (s50<(s43.length:Int))) then
   bif (decide (0≤s47)&&decide (s47<((listAt s43 [] s50.toNat).length:Int))) then
    bif (listAt (listAt s43 [] s50.toNat) false s47.toNat) then
     bif (decide (s51.length+([(Move.mk s49 s47)]:LM).length≤lim)) then
      rec3 s42 s43 s44 s45 s46 (wi (s47+(1:Int))) s48 s49 s50 (s51++([(Move.mk s49 s47)]:LM)) s52
     else none
    else rec3 s42 s43 s44 s45 s46 (wi (s47+(1:Int))) s48 s49 s50 s51 s52
   else none
  else none
 else k3_e6 s42 s43 s44 s45 s46 s48 s51 s52
def f45.s3 {R:Type} (L N:Nat) (k3_e6:Bool→LLB→Int→Int→Int→LLM→LM→LLM→Option R) (rec3:Bool→LLB→Int→Int→Int→Int→LLM→Int→Int→LM→LLM→Option R) (s42:Bool) (s43:LLB) (s44:Int) (s45:Int) (s46:Int) (s47:Int) (s48:LLM) (s49:Int) (s50:Int) (s51:LM) (s52:LLM):Option R:=
 f45.s3' L N k3_e6 rec3 s42 s43 s44 s45 s46 s47 s48 s49 s50 s51 s52
def f45.l3 {R:Type} (L N:Nat) (k3_e6:Bool→LLB→Int→Int→Int→LLM→LM→LLM→Option R):Nat→Bool→LLB→Int→Int→Int→Int→LLM→Int→Int→LM→LLM→Option R
 |0,_,_,_,_,_,_,_,_,_,_,_=>none
 |n+1,s42,s43,s44,s45,s46,s47,s48,s49,s50,s51,s52=>f45.s3 L N k3_e6 (f45.l3 L N k3_e6 n) s42 s43 s44 s45 s46 s47 s48 s49 s50 s51 s52
def f45.T3 (s42:Bool) (s43:LLB) (s44:Int) (s45:Int) (s46:Int) (s47:Int) (s48:LLM) (s49:Int) (s50:Int) (s51:LM) (s52:LLM):T:=mkT 94 [(1,(.tv .bool s42)),(2,(.ptr 1002 0)),(4,(.ptr 1004 0)),(5,(.tv (.sl (.sl .bool)) s43)),(6,(.ptr 1006 0)),(7,(.tv i64 s44)),(8,(.row 1023)),(9,(.tv i64 s45)),(10,(.tv i64 s46)),(11,(.ptr 1011 0)),(12,(.tv i64 s47))]
def f45.H3 (s42:Bool) (s43:LLB) (s44:Int) (s45:Int) (s46:Int) (s47:Int) (s48:LLM) (s49:Int) (s50:Int) (s51:LM) (s52:LLM):H:=[(1002,(.box [(.tv (.sl (.sl (.st 0))) s48)])),(1004,(.box [.nil])),(1006,(.box [(.row 1900)])),(1011,(.box [(.tv i64 s49),(.tv i64 s50)])),(1023,(.row 63 (.st 0) s51)),(1900,(.row 61 (.sl (.st 0)) s52))]
def f45.T3_e6 (z53:Bool) (z54:LLB) (z55:Int) (z56:Int) (z57:Int) (z58:LLM) (z59:LM) (z60:LLM):T:=mkT 94 [(1,(.tv .bool z53)),(2,(.ptr 1002 0)),(4,(.ptr 1004 0)),(5,(.tv (.sl (.sl .bool)) z54)),(6,(.ptr 1006 0)),(7,(.tv i64 z55)),(8,(.row 1023)),(9,(.tv i64 z56)),(10,(.tv i64 z57))]
def f45.H3_e6 (z53:Bool) (z54:LLB) (z55:Int) (z56:Int) (z57:Int) (z58:LLM) (z59:LM) (z60:LLM):H:=[(1002,(.box [(.tv (.sl (.sl (.st 0))) z58)])),(1004,(.box [.nil])),(1006,(.box [(.row 1900)])),(1023,(.row 63 (.st 0) z59)),(1900,(.row 61 (.sl (.st 0)) z60))]
def f45.p3_e6' {R:Type} (L N:Nat) (k2_e4:Bool→LLB→Int→Int→LLM→LM→LLM→Option R) (rec2:Bool→LLB→Int→Int→Int→LLM→LM→LLM→Option R) (z53:Bool) (z54:LLB) (z55:Int) (z56:Int) (z57:Int) (z58:LLM) (z59:LM) (z60:LLM):Option R:=
 rec2 z53 z54 z55 z56 (wi (z57+(1:Int))) z58 z59 z60
def f45.p3_e6 {R:Type} (L N:Nat) (k2_e4:Bool→LLB→Int→Int→LLM→LM→LLM→Option R) (rec2:Bool→LLB→Int→Int→Int→LLM→LM→LLM→Option R) (z53:Bool) (z54:LLB) (z55:Int) (z56:Int) (z57:Int) (z58:LLM) (z59:LM) (z60:LLM):Option R:=
 f45.p3_e6' L N k2_e4 rec2 z53 z54 z55 z56 z57 z58 z59 z60
def f45.s2' {R:Type} (L N:Nat) (k2_e4:Bool→LLB→Int→Int→LLM→LM→LLM→Option R) (rec2:Bool→LLB→Int→Int→Int→LLM→LM→LLM→Option R) (w3:Bool→LLB→Int→Int→Int→Int→LLM→Int→Int→LM→LLM→Option R) (s27:Bool) (s28:LLB) (s29:Int) (s30:Int) (s31:Int) (s32:LLM) (s33:LM) (s34:LLM):Option R:=
 bif (decide (0≤s30)&&decide (s30<(s32.length:Int))) then
  bif (decide (s31<((listAt s32 [] s30.toNat).length:Int))) then
   bif (decide (0≤s30)&&decide (s30<(s32.length:Int))) then
    bif (decide (0≤s31)&&decide (s31<((listAt s32 [] s30.toNat).length:Int))) then
     w3 s27 s28 s29 s30 s31 (0:Int) s32 ((listAt (listAt s32 [] s30.toNat) (Ty.dflt (.st 0)) s31.toNat).act) ((listAt (listAt s32 [] s30.toNat) (Ty.dflt (.st 0)) s31.toNat).to) s33 s34
    else none
   else none
  else k2_e4 s27 s28 s29 s30 s32 s33 s34
 else none
def f45.s2 {R:Type} (L N:Nat) (k2_e4:Bool→LLB→Int→Int→LLM→LM→LLM→Option R) (rec2:Bool→LLB→Int→Int→Int→LLM→LM→LLM→Option R) (s27:Bool) (s28:LLB) (s29:Int) (s30:Int) (s31:Int) (s32:LLM) (s33:LM) (s34:LLM):Option R:=
 f45.s2' L N k2_e4 rec2 (fun s42 s43 s44 s45 s46 s47 s48 s49 s50 s51 s52=>f45.l3 L N (fun z53 z54 z55 z56 z57 z58 z59 z60=>f45.p3_e6 L N k2_e4 rec2 z53 z54 z55 z56 z57 z58 z59 z60) L s42 s43 s44 s45 s46 s47 s48 s49 s50 s51 s52) s27 s28 s29 s30 s31 s32 s33 s34
def f45.l2 {R:Type} (L N:Nat) (k2_e4:Bool→LLB→Int→Int→LLM→LM→LLM→Option R):Nat→Bool→LLB→Int→Int→Int→LLM→LM→LLM→Option R
 |0,_,_,_,_,_,_,_,_=>none
 |n+1,s27,s28,s29,s30,s31,s32,s33,s34=>f45.s2 L N k2_e4 (f45.l2 L N k2_e4 n) s27 s28 s29 s30 s31 s32 s33 s34
def f45.T2 (s27:Bool) (s28:LLB) (s29:Int) (s30:Int) (s31:Int) (s32:LLM) (s33:LM) (s34:LLM):T:=mkT 94 [(1,(.tv .bool s27)),(2,(.ptr 1002 0)),(4,(.ptr 1004 0)),(5,(.tv (.sl (.sl .bool)) s28)),(6,(.ptr 1006 0)),(7,(.tv i64 s29)),(8,(.row 1023)),(9,(.tv i64 s30)),(10,(.tv i64 s31))]
def f45.H2 (s27:Bool) (s28:LLB) (s29:Int) (s30:Int) (s31:Int) (s32:LLM) (s33:LM) (s34:LLM):H:=[(1002,(.box [(.tv (.sl (.sl (.st 0))) s32)])),(1004,(.box [.nil])),(1006,(.box [(.row 1900)])),(1023,(.row 63 (.st 0) s33)),(1900,(.row 61 (.sl (.st 0)) s34))]
def f45.T2_e4 (z35:Bool) (z36:LLB) (z37:Int) (z38:Int) (z39:LLM) (z40:LM) (z41:LLM):T:=mkT 94 [(1,(.tv .bool z35)),(2,(.ptr 1002 0)),(4,(.ptr 1004 0)),(5,(.tv (.sl (.sl .bool)) z36)),(6,(.ptr 1006 0)),(7,(.tv i64 z37)),(8,(.row 1023)),(9,(.tv i64 z38))]
def f45.H2_e4 (z35:Bool) (z36:LLB) (z37:Int) (z38:Int) (z39:LLM) (z40:LM) (z41:LLM):H:=[(1002,(.box [(.tv (.sl (.sl (.st 0))) z39)])),(1004,(.box [.nil])),(1006,(.box [(.row 1900)])),(1023,(.row 63 (.st 0) z40)),(1900,(.row 61 (.sl (.st 0)) z41))]
def f45.p2_e4' {R:Type} (L N:Nat) (k1_e2:Bool→LLB→Int→LLM→LM→LLM→Option R) (rec1:Bool→LLB→Int→Int→LLM→LM→LLM→Option R) (z35:Bool) (z36:LLB) (z37:Int) (z38:Int) (z39:LLM) (z40:LM) (z41:LLM):Option R:=
 rec1 z35 z36 z37 (wi (z38+(1:Int))) z39 z40 z41
def f45.p2_e4 {R:Type} (L N:Nat) (k1_e2:Bool→LLB→Int→LLM→LM→LLM→Option R) (rec1:Bool→LLB→Int→Int→LLM→LM→LLM→Option R) (z35:Bool) (z36:LLB) (z37:Int) (z38:Int) (z39:LLM) (z40:LM) (z41:LLM):Option R:=
 f45.p2_e4' L N k1_e2 rec1 z35 z36 z37 z38 z39 z40 z41
def f45.j0' {R:Type} (L N:Nat) (k1_e2:Bool→LLB→Int→LLM→LM→LLM→Option R) (rec1:Bool→LLB→Int→Int→LLM→LM→LLM→Option R) (w2:Bool→LLB→Int→Int→Int→LLM→LM→LLM→Option R) (v20:Bool) (v21:LLB) (v22:Int) (v23:Int) (v24:LLM) (v25:LM) (v26:LLM):Option R:=
 w2 v20 v21 v22 v23 (0:Int) v24 v25 v26
def f45.s1' {R:Type} (L N:Nat) (k1_e2:Bool→LLB→Int→LLM→LM→LLM→Option R) (rec1:Bool→LLB→Int→Int→LLM→LM→LLM→Option R) (w2:Bool→LLB→Int→Int→Int→LLM→LM→LLM→Option R) (s7:Bool) (s8:LLB) (s9:Int) (s10:Int) (s11:LLM) (s12:LM) (s13:LLM):Option R:=
 bif (decide (s10<(s11.length:Int))) then
  bif (decide (0≤s9)&&decide (s9<(s8.length:Int))) then
   bif (decide (0≤s10)&&decide (s10<((listAt s8 [] s9.toNat).length:Int))) then
    bif (!(listAt (listAt s8 [] s9.toNat) false s10.toNat)) then
     rec1 s7 s8 s9 (wi (s10+(1:Int))) s11 s12 s13
    else bif (!s7) then
     bif (decide (s12.length+([(Move.mk (0:Int) s10)]:LM).length≤lim)) then
      f45.j0' L N k1_e2 rec1 w2 s7 s8 s9 s10 s11 (s12++([(Move.mk (0:Int) s10)]:LM)) s13
     else none
    else f45.j0' L N k1_e2 rec1 w2 s7 s8 s9 s10 s11 s12 s13
   else none
  else none
 else k1_e2 s7 s8 s9 s11 s12 s13
def f45.s1 {R:Type} (L N:Nat) (k1_e2:Bool→LLB→Int→LLM→LM→LLM→Option R) (rec1:Bool→LLB→Int→Int→LLM→LM→LLM→Option R) (s7:Bool) (s8:LLB) (s9:Int) (s10:Int) (s11:LLM) (s12:LM) (s13:LLM):Option R:=
 f45.s1' L N k1_e2 rec1 (fun s27 s28 s29 s30 s31 s32 s33 s34=>f45.l2 L N (fun z35 z36 z37 z38 z39 z40 z41=>f45.p2_e4 L N k1_e2 rec1 z35 z36 z37 z38 z39 z40 z41) L s27 s28 s29 s30 s31 s32 s33 s34) s7 s8 s9 s10 s11 s12 s13
def f45.l1 {R:Type} (L N:Nat) (k1_e2:Bool→LLB→Int→LLM→LM→LLM→Option R):Nat→Bool→LLB→Int→Int→LLM→LM→LLM→Option R
 |0,_,_,_,_,_,_,_=>none
 |n+1,s7,s8,s9,s10,s11,s12,s13=>f45.s1 L N k1_e2 (f45.l1 L N k1_e2 n) s7 s8 s9 s10 s11 s12 s13
def f45.T1 (s7:Bool) (s8:LLB) (s9:Int) (s10:Int) (s11:LLM) (s12:LM) (s13:LLM):T:=mkT 94 [(1,(.tv .bool s7)),(2,(.ptr 1002 0)),(4,(.ptr 1004 0)),(5,(.tv (.sl (.sl .bool)) s8)),(6,(.ptr 1006 0)),(7,(.tv i64 s9)),(8,(.row 1023)),(9,(.tv i64 s10))]
def f45.H1 (s7:Bool) (s8:LLB) (s9:Int) (s10:Int) (s11:LLM) (s12:LM) (s13:LLM):H:=[(1002,(.box [(.tv (.sl (.sl (.st 0))) s11)])),(1004,(.box [.nil])),(1006,(.box [(.row 1900)])),(1023,(.row 63 (.st 0) s12)),(1900,(.row 61 (.sl (.st 0)) s13))]
def f45.T1_e2 (z14:Bool) (z15:LLB) (z16:Int) (z17:LLM) (z18:LM) (z19:LLM):T:=mkT 94 [(1,(.tv .bool z14)),(2,(.ptr 1002 0)),(4,(.ptr 1004 0)),(5,(.tv (.sl (.sl .bool)) z15)),(6,(.ptr 1006 0)),(7,(.tv i64 z16)),(8,(.row 1023))]
def f45.H1_e2 (z14:Bool) (z15:LLB) (z16:Int) (z17:LLM) (z18:LM) (z19:LLM):H:=[(1002,(.box [(.tv (.sl (.sl (.st 0))) z17)])),(1004,(.box [.nil])),(1006,(.box [(.row 1900)])),(1023,(.row 63 (.st 0) z18)),(1900,(.row 61 (.sl (.st 0)) z19))]
def f45.p1_e2' {R:Type} (L N:Nat) (k0_e0:LLM→Option R) (rec0:Bool→LLB→Int→LLM→LLM→Option R) (z14:Bool) (z15:LLB) (z16:Int) (z17:LLM) (z18:LM) (z19:LLM):Option R:=
 (f78 L N z18).bind fun y79=>
 bif (decide (z19.length+([y79]:LLM).length≤lim)) then
  rec0 z14 z15 (wi (z16+(1:Int))) z17 (z19++([y79]:LLM))
 else none
def f45.p1_e2 {R:Type} (L N:Nat) (k0_e0:LLM→Option R) (rec0:Bool→LLB→Int→LLM→LLM→Option R) (z14:Bool) (z15:LLB) (z16:Int) (z17:LLM) (z18:LM) (z19:LLM):Option R:=
 f45.p1_e2' L N k0_e0 rec0 z14 z15 z16 z17 z18 z19
def f45.s0' {R:Type} (L N:Nat) (k0_e0:LLM→Option R) (rec0:Bool→LLB→Int→LLM→LLM→Option R) (w1:Bool→LLB→Int→Int→LLM→LM→LLM→Option R) (s1:Bool) (s2:LLB) (s3:Int) (s4:LLM) (s5:LLM):Option R:=
 bif (decide (s3<(s4.length:Int))) then
  w1 s1 s2 s3 (0:Int) s4 ([]:LM) s5
 else k0_e0 s5
def f45.s0 {R:Type} (L N:Nat) (k0_e0:LLM→Option R) (rec0:Bool→LLB→Int→LLM→LLM→Option R) (s1:Bool) (s2:LLB) (s3:Int) (s4:LLM) (s5:LLM):Option R:=
 f45.s0' L N k0_e0 rec0 (fun s7 s8 s9 s10 s11 s12 s13=>f45.l1 L N (fun z14 z15 z16 z17 z18 z19=>f45.p1_e2 L N k0_e0 rec0 z14 z15 z16 z17 z18 z19) L s7 s8 s9 s10 s11 s12 s13) s1 s2 s3 s4 s5
def f45.l0 {R:Type} (L N:Nat) (k0_e0:LLM→Option R):Nat→Bool→LLB→Int→LLM→LLM→Option R
 |0,_,_,_,_,_=>none
 |n+1,s1,s2,s3,s4,s5=>f45.s0 L N k0_e0 (f45.l0 L N k0_e0 n) s1 s2 s3 s4 s5
def f45.T0 (s1:Bool) (s2:LLB) (s3:Int) (s4:LLM) (s5:LLM):T:=mkT 94 [(1,(.tv .bool s1)),(2,(.ptr 1002 0)),(4,(.ptr 1004 0)),(5,(.tv (.sl (.sl .bool)) s2)),(6,(.ptr 1006 0)),(7,(.tv i64 s3))]
def f45.H0 (s1:Bool) (s2:LLB) (s3:Int) (s4:LLM) (s5:LLM):H:=[(1002,(.box [(.tv (.sl (.sl (.st 0))) s4)])),(1004,(.box [.nil])),(1006,(.box [(.row 1900)])),(1900,(.row 61 (.sl (.st 0)) s5))]
def f45.T0_e0 (z6:LLM):T:=mkT 94 [(4,(.ptr 1004 0)),(6,(.ptr 1006 0))]
def f45.H0_e0 (z6:LLM):H:=[(1004,(.box [.nil])),(1006,(.box [(.row 1900)])),(1900,(.row 61 (.sl (.st 0)) z6))]
def f45.p0_e0' {R:Type} (L N:Nat) (k:Graph→Option R) (z6:LLM):Option R:=
 k (Graph.mk z6)
def f45.p0_e0 {R:Type} (L N:Nat) (k:Graph→Option R) (z6:LLM):Option R:=
 f45.p0_e0' L N k z6
def f45.b' {R:Type} (L N:Nat) (k:Graph→Option R) (w0:Bool→LLB→Int→LLM→LLM→Option R) (x0:Graph) (x1:Bool):Option R:=
 (f77 L N (Graph.mk x0.moves)).bind fun y0=>
 w0 x1 y0 (0:Int) x0.moves ([]:LLM)
def f45.b {R:Type} (L N:Nat) (k:Graph→Option R) (x0:Graph) (x1:Bool):Option R:=
 f45.b' L N k (fun s1 s2 s3 s4 s5=>f45.l0 L N (fun z6=>f45.p0_e0 L N k z6) L s1 s2 s3 s4 s5) x0 x1
def f45 (L N:Nat) (x0:Graph) (x1:Bool):Option (Graph):=f45.b L N some x0 x1
def f45.ent (L N:Nat):=entDa [(.st 2),.bool] (.one (.st 2)) fun d=>f45 L N d.1 d.2.1
noncomputable def E45 (L N:Nat):Env:={P:=Tryz.prog,ty:=tyOf,Φ:=(Φ77 L N),inl:=inlT,live:=lives,liveX:=livesX,L:=L,dp:=none,prom:=promT,heal:=healT,ren:=renT}
noncomputable def f45.c0:Code:=loopAt 0 (codeOf Tryz.f45)
noncomputable def f45.c1:Code:=loopAt 2 f45.c0
noncomputable def f45.c2:Code:=loopAt 4 f45.c1
noncomputable def f45.c3:Code:=loopAt 6 f45.c2
def f45.X3_e6 {R:Type} (κ:KX R):=fun z53 z54 z55 z56 z57 z58 z59 z60=>κ (.exit 6) (f45.T3_e6 z53 z54 z55 z56 z57 z58 z59 z60) (f45.H3_e6 z53 z54 z55 z56 z57 z58 z59 z60)
def f45.R3 {R:Type} (rec:KT R):=fun s42 s43 s44 s45 s46 s47 s48 s49 s50 s51 s52=>rec (f45.T3 s42 s43 s44 s45 s46 s47 s48 s49 s50 s51 s52) (f45.H3 s42 s43 s44 s45 s46 s47 s48 s49 s50 s51 s52)
theorem f45.s3_eq {R:Type} (L N:Nat) (κ:KX R) (rec:KT R) (s42:Bool) (s43:LLB) (s44:Int) (s45:Int) (s46:Int) (s47:Int) (s48:LLM) (s49:Int) (s50:Int) (s51:LM) (s52:LLM):
  evRd (E45 L N) (evCallI (E45 L N) 0 1000) 1000 45 94 6 f45.c3 κ rec (f45.T3 s42 s43 s44 s45 s46 s47 s48 s49 s50 s51 s52) (f45.H3 s42 s43 s44 s45 s46 s47 s48 s49 s50 s51 s52)
  =f45.s3 L N (f45.X3_e6 κ) (f45.R3 rec) s42 s43 s44 s45 s46 s47 s48 s49 s50 s51 s52:=by kernel_rfl
theorem f45.l3_eq {R:Type} (L N:Nat) (κ:KX R):∀(n:Nat) (s42:Bool) (s43:LLB) (s44:Int) (s45:Int) (s46:Int) (s47:Int) (s48:LLM) (s49:Int) (s50:Int) (s51:LM) (s52:LLM),
  evLp (E45 L N) (evCallI (E45 L N) 0 1000) 1000 45 94 6 f45.c3 κ n (f45.T3 s42 s43 s44 s45 s46 s47 s48 s49 s50 s51 s52) (f45.H3 s42 s43 s44 s45 s46 s47 s48 s49 s50 s51 s52)
  =f45.l3 L N (f45.X3_e6 κ) n s42 s43 s44 s45 s46 s47 s48 s49 s50 s51 s52:=by
 intro n
 induction n with
 |zero=>intros;rfl
 |succ n ih=>
  intro s42 s43 s44 s45 s46 s47 s48 s49 s50 s51 s52
  rw [evLp_succ,f45.s3_eq]
  delta f45.R3
  simp only [ih]
  rfl
def f45.X2_e4 {R:Type} (κ:KX R):=fun z35 z36 z37 z38 z39 z40 z41=>κ (.exit 4) (f45.T2_e4 z35 z36 z37 z38 z39 z40 z41) (f45.H2_e4 z35 z36 z37 z38 z39 z40 z41)
def f45.R2 {R:Type} (rec:KT R):=fun s27 s28 s29 s30 s31 s32 s33 s34=>rec (f45.T2 s27 s28 s29 s30 s31 s32 s33 s34) (f45.H2 s27 s28 s29 s30 s31 s32 s33 s34)
theorem f45.p3_e6_eq {R:Type} (L N:Nat) (κ:KX R) (rec:KT R) (z53:Bool) (z54:LLB) (z55:Int) (z56:Int) (z57:Int) (z58:LLM) (z59:LM) (z60:LLM):
  (contAt (E45 L N) (evCallI (E45 L N) 0 1000) 1000 45 94 6 f45.c2 (rdK (E45 L N) 1000 45 94 4 κ rec)) (.exit 6) (f45.T3_e6 z53 z54 z55 z56 z57 z58 z59 z60) (f45.H3_e6 z53 z54 z55 z56 z57 z58 z59 z60)
  =f45.p3_e6 L N (f45.X2_e4 κ) (f45.R2 rec) z53 z54 z55 z56 z57 z58 z59 z60:=by kernel_rfl
theorem f45.s2_eq {R:Type} (L N:Nat) (κ:KX R) (rec:KT R) (s27:Bool) (s28:LLB) (s29:Int) (s30:Int) (s31:Int) (s32:LLM) (s33:LM) (s34:LLM):
  evRd (E45 L N) (evCallI (E45 L N) 0 1000) 1000 45 94 4 f45.c2 κ rec (f45.T2 s27 s28 s29 s30 s31 s32 s33 s34) (f45.H2 s27 s28 s29 s30 s31 s32 s33 s34)
  =f45.s2 L N (f45.X2_e4 κ) (f45.R2 rec) s27 s28 s29 s30 s31 s32 s33 s34:=by
 refine Eq.trans (b:=f45.s2' L N (f45.X2_e4 κ) (f45.R2 rec) (fun s42 s43 s44 s45 s46 s47 s48 s49 s50 s51 s52=>evLp (E45 L N) (evCallI (E45 L N) 0 1000) 1000 45 94 6 f45.c3 (contAt (E45 L N) (evCallI (E45 L N) 0 1000) 1000 45 94 6 f45.c2 (rdK (E45 L N) 1000 45 94 4 κ rec)) L (f45.T3 s42 s43 s44 s45 s46 s47 s48 s49 s50 s51 s52) (f45.H3 s42 s43 s44 s45 s46 s47 s48 s49 s50 s51 s52)) s27 s28 s29 s30 s31 s32 s33 s34) (by kernel_rfl) ?_
 unfold f45.s2
 simp only [f45.l3_eq]
 delta f45.X3_e6
 simp only [f45.p3_e6_eq]
theorem f45.l2_eq {R:Type} (L N:Nat) (κ:KX R):∀(n:Nat) (s27:Bool) (s28:LLB) (s29:Int) (s30:Int) (s31:Int) (s32:LLM) (s33:LM) (s34:LLM),
  evLp (E45 L N) (evCallI (E45 L N) 0 1000) 1000 45 94 4 f45.c2 κ n (f45.T2 s27 s28 s29 s30 s31 s32 s33 s34) (f45.H2 s27 s28 s29 s30 s31 s32 s33 s34)
  =f45.l2 L N (f45.X2_e4 κ) n s27 s28 s29 s30 s31 s32 s33 s34:=by
 intro n
 induction n with
 |zero=>intros;rfl
 |succ n ih=>
  intro s27 s28 s29 s30 s31 s32 s33 s34
  rw [evLp_succ,f45.s2_eq]
  delta f45.R2
  simp only [ih]
  rfl
def f45.X1_e2 {R:Type} (κ:KX R):=fun z14 z15 z16 z17 z18 z19=>κ (.exit 2) (f45.T1_e2 z14 z15 z16 z17 z18 z19) (f45.H1_e2 z14 z15 z16 z17 z18 z19)
def f45.R1 {R:Type} (rec:KT R):=fun s7 s8 s9 s10 s11 s12 s13=>rec (f45.T1 s7 s8 s9 s10 s11 s12 s13) (f45.H1 s7 s8 s9 s10 s11 s12 s13)
theorem f45.p2_e4_eq {R:Type} (L N:Nat) (κ:KX R) (rec:KT R) (z35:Bool) (z36:LLB) (z37:Int) (z38:Int) (z39:LLM) (z40:LM) (z41:LLM):
  (contAt (E45 L N) (evCallI (E45 L N) 0 1000) 1000 45 94 4 f45.c1 (rdK (E45 L N) 1000 45 94 2 κ rec)) (.exit 4) (f45.T2_e4 z35 z36 z37 z38 z39 z40 z41) (f45.H2_e4 z35 z36 z37 z38 z39 z40 z41)
  =f45.p2_e4 L N (f45.X1_e2 κ) (f45.R1 rec) z35 z36 z37 z38 z39 z40 z41:=by kernel_rfl
theorem f45.s1_eq {R:Type} (L N:Nat) (κ:KX R) (rec:KT R) (s7:Bool) (s8:LLB) (s9:Int) (s10:Int) (s11:LLM) (s12:LM) (s13:LLM):
  evRd (E45 L N) (evCallI (E45 L N) 0 1000) 1000 45 94 2 f45.c1 κ rec (f45.T1 s7 s8 s9 s10 s11 s12 s13) (f45.H1 s7 s8 s9 s10 s11 s12 s13)
  =f45.s1 L N (f45.X1_e2 κ) (f45.R1 rec) s7 s8 s9 s10 s11 s12 s13:=by
 refine Eq.trans (b:=f45.s1' L N (f45.X1_e2 κ) (f45.R1 rec) (fun s27 s28 s29 s30 s31 s32 s33 s34=>evLp (E45 L N) (evCallI (E45 L N) 0 1000) 1000 45 94 4 f45.c2 (contAt (E45 L N) (evCallI (E45 L N) 0 1000) 1000 45 94 4 f45.c1 (rdK (E45 L N) 1000 45 94 2 κ rec)) L (f45.T2 s27 s28 s29 s30 s31 s32 s33 s34) (f45.H2 s27 s28 s29 s30 s31 s32 s33 s34)) s7 s8 s9 s10 s11 s12 s13) (by kernel_rfl) ?_
 unfold f45.s1
 simp only [f45.l2_eq]
 delta f45.X2_e4
 simp only [f45.p2_e4_eq]
theorem f45.l1_eq {R:Type} (L N:Nat) (κ:KX R):∀(n:Nat) (s7:Bool) (s8:LLB) (s9:Int) (s10:Int) (s11:LLM) (s12:LM) (s13:LLM),
  evLp (E45 L N) (evCallI (E45 L N) 0 1000) 1000 45 94 2 f45.c1 κ n (f45.T1 s7 s8 s9 s10 s11 s12 s13) (f45.H1 s7 s8 s9 s10 s11 s12 s13)
  =f45.l1 L N (f45.X1_e2 κ) n s7 s8 s9 s10 s11 s12 s13:=by
 intro n
 induction n with
 |zero=>intros;rfl
 |succ n ih=>
  intro s7 s8 s9 s10 s11 s12 s13
  rw [evLp_succ,f45.s1_eq]
  delta f45.R1
  simp only [ih]
  rfl
def f45.X0_e0 {R:Type} (κ:KX R):=fun z6=>κ (.exit 0) (f45.T0_e0 z6) (f45.H0_e0 z6)
def f45.R0 {R:Type} (rec:KT R):=fun s1 s2 s3 s4 s5=>rec (f45.T0 s1 s2 s3 s4 s5) (f45.H0 s1 s2 s3 s4 s5)
theorem f45.p1_e2_eq {R:Type} (L N:Nat) (κ:KX R) (rec:KT R) (z14:Bool) (z15:LLB) (z16:Int) (z17:LLM) (z18:LM) (z19:LLM):
  (contAt (E45 L N) (evCallI (E45 L N) 0 1000) 1000 45 94 2 f45.c0 (rdK (E45 L N) 1000 45 94 0 κ rec)) (.exit 2) (f45.T1_e2 z14 z15 z16 z17 z18 z19) (f45.H1_e2 z14 z15 z16 z17 z18 z19)
  =f45.p1_e2 L N (f45.X0_e0 κ) (f45.R0 rec) z14 z15 z16 z17 z18 z19:=by kernel_rfl
theorem f45.s0_eq {R:Type} (L N:Nat) (κ:KX R) (rec:KT R) (s1:Bool) (s2:LLB) (s3:Int) (s4:LLM) (s5:LLM):
  evRd (E45 L N) (evCallI (E45 L N) 0 1000) 1000 45 94 0 f45.c0 κ rec (f45.T0 s1 s2 s3 s4 s5) (f45.H0 s1 s2 s3 s4 s5)
  =f45.s0 L N (f45.X0_e0 κ) (f45.R0 rec) s1 s2 s3 s4 s5:=by
 refine Eq.trans (b:=f45.s0' L N (f45.X0_e0 κ) (f45.R0 rec) (fun s7 s8 s9 s10 s11 s12 s13=>evLp (E45 L N) (evCallI (E45 L N) 0 1000) 1000 45 94 2 f45.c1 (contAt (E45 L N) (evCallI (E45 L N) 0 1000) 1000 45 94 2 f45.c0 (rdK (E45 L N) 1000 45 94 0 κ rec)) L (f45.T1 s7 s8 s9 s10 s11 s12 s13) (f45.H1 s7 s8 s9 s10 s11 s12 s13)) s1 s2 s3 s4 s5) (by kernel_rfl) ?_
 unfold f45.s0
 simp only [f45.l1_eq]
 delta f45.X1_e2
 simp only [f45.p1_e2_eq]
theorem f45.l0_eq {R:Type} (L N:Nat) (κ:KX R):∀(n:Nat) (s1:Bool) (s2:LLB) (s3:Int) (s4:LLM) (s5:LLM),
  evLp (E45 L N) (evCallI (E45 L N) 0 1000) 1000 45 94 0 f45.c0 κ n (f45.T0 s1 s2 s3 s4 s5) (f45.H0 s1 s2 s3 s4 s5)
  =f45.l0 L N (f45.X0_e0 κ) n s1 s2 s3 s4 s5:=by
 intro n
 induction n with
 |zero=>intros;rfl
 |succ n ih=>
  intro s1 s2 s3 s4 s5
  rw [evLp_succ,f45.s0_eq]
  delta f45.R0
  simp only [ih]
  rfl
theorem f45.p0_e0_eq {R:Type} (L N:Nat) (κ:AV→Option R) (z6:LLM):
  (contAt (E45 L N) (evCallI (E45 L N) 0 1000) 1000 45 94 0 (codeOf Tryz.f45) (finK (E45 L N) 1000 Tryz.f45 (finC (.one (.st 2)) κ))) (.exit 0) (f45.T0_e0 z6) (f45.H0_e0 z6)
  =f45.p0_e0 L N (fun a0=>κ (.tv (.st 2) a0)) z6:=by kernel_rfl
theorem f45.b_eq {R:Type} (L N:Nat) (κ:AV→Option R) (x0:Graph) (x1:Bool):
  evBody (E45 L N) (evCallI (E45 L N) 0 1000) 1000 45 Tryz.f45 [(.tv (.st 2) x0),(.tv .bool x1)] [] [] (finC (.one (.st 2)) κ)
  =f45.b L N (fun a0=>κ (.tv (.st 2) a0)) x0 x1:=by
 refine Eq.trans (b:=f45.b' L N (fun a0=>κ (.tv (.st 2) a0)) (fun s1 s2 s3 s4 s5=>evLp (E45 L N) (evCallI (E45 L N) 0 1000) 1000 45 94 0 f45.c0 (contAt (E45 L N) (evCallI (E45 L N) 0 1000) 1000 45 94 0 (codeOf Tryz.f45) (finK (E45 L N) 1000 Tryz.f45 (finC (.one (.st 2)) κ))) L (f45.T0 s1 s2 s3 s4 s5) (f45.H0 s1 s2 s3 s4 s5)) x0 x1) (by kernel_rfl) ?_
 unfold f45.b
 simp only [f45.l0_eq]
 delta f45.X0_e0
 simp only [f45.p0_e0_eq]
theorem f45.ok (L N:Nat) (hΦ:TellsOk Tryz.prog ((Φ77 L N))):EntOk Tryz.prog 45 (f45.ent L N):=entDa_ok (E:=(E45 L N)) (dep:=1000) (f:=Tryz.f45) (sound_of hΦ) okP (callI_sound (sound_of hΦ) okP 0 1000) rfl fun d _ hy=>(f45.b_eq L N (unR (.one (.st 2))) d.1 d.2.1).trans (Eq.trans (b:=f45.b L N some d.1 d.2.1) (by kernel_rfl) hy)
def Φ45 (L N:Nat):Tells:=(addT (Φ77 L N) 45 (f45.ent L N))
theorem Φ45_ok (L N:Nat):TellsOk Tryz.prog (Φ45 L N):=addT_ok (Φ77_ok L N) (f45.ok L N (Φ77_ok L N))
def f79.s0' {R:Type} (L N:Nat) (k0_e0:Option R) (k0_r:Bool→Option R) (rec0:Int→Int→LI→Int→Int→LLM→Option R) (s0:Int) (s1:Int) (s2:LI) (s3:Int) (s4:Int) (s5:LLM):Option R:=
 bif (decide (0≤s0)&&decide (s0<(s5.length:Int))) then
  bif (decide (s4<((listAt s5 [] s0.toNat).length:Int))) then
   bif (decide (0≤s0)&&decide (s0<(s5.length:Int))) then
    bif (decide (0≤s4)&&decide (s4<((listAt s5 [] s0.toNat).length:Int))) then
     bif ((listAt (listAt s5 [] s0.toNat) (Ty.dflt (.st 0)) s4.toNat).act==s1) then
      bif (decide (0≤(listAt (listAt s5 [] s0.toNat) (Ty.dflt (.st 0)) s4.toNat).to)&&decide ((listAt (listAt s5 [] s0.toNat) (Ty.dflt (.st 0)) s4.toNat).to<(s2.length:Int))) then
       bif ((listAt s2 (0:Int) ((listAt (listAt s5 [] s0.toNat) (Ty.dflt (.st 0)) s4.toNat).to).toNat)==s3) then
        k0_r true
       else rec0 s0 s1 s2 s3 (wi (s4+(1:Int))) s5
      else none
     else rec0 s0 s1 s2 s3 (wi (s4+(1:Int))) s5
    else none
   else none
  else k0_e0
 else none
def f79.s0 {R:Type} (L N:Nat) (k0_e0:Option R) (k0_r:Bool→Option R) (rec0:Int→Int→LI→Int→Int→LLM→Option R) (s0:Int) (s1:Int) (s2:LI) (s3:Int) (s4:Int) (s5:LLM):Option R:=
 f79.s0' L N k0_e0 k0_r rec0 s0 s1 s2 s3 s4 s5
def f79.l0 {R:Type} (L N:Nat) (k0_e0:Option R) (k0_r:Bool→Option R):Nat→Int→Int→LI→Int→Int→LLM→Option R
 |0,_,_,_,_,_,_=>none
 |n+1,s0,s1,s2,s3,s4,s5=>f79.s0 L N k0_e0 k0_r (f79.l0 L N k0_e0 k0_r n) s0 s1 s2 s3 s4 s5
def f79.T0 (s0:Int) (s1:Int) (s2:LI) (s3:Int) (s4:Int) (s5:LLM):T:=mkT 44 [(1,(.tv i64 s0)),(2,(.tv i64 s1)),(3,(.tv (.sl i64) s2)),(4,(.tv i64 s3)),(5,(.ptr 1005 0)),(11,(.tv i64 s4))]
def f79.H0 (s0:Int) (s1:Int) (s2:LI) (s3:Int) (s4:Int) (s5:LLM):H:=[(1005,(.box [(.tv (.sl (.sl (.st 0))) s5)]))]
def f79.T0_e0:T:=mkT 44 []
def f79.H0_e0:H:=[]
def f79.T0_r (z13:Bool):T:=mkT 44 [(10,(.tv .bool z13))]
def f79.H0_r (z13:Bool):H:=[]
def f79.p0_e0' {R:Type} (L N:Nat) (k:Bool→Option R):Option R:=
 k false
def f79.p0_e0 {R:Type} (L N:Nat) (k:Bool→Option R):Option R:=
 f79.p0_e0' L N k
def f79.p0_r' {R:Type} (L N:Nat) (k:Bool→Option R) (z13:Bool):Option R:=
 k z13
def f79.p0_r {R:Type} (L N:Nat) (k:Bool→Option R) (z13:Bool):Option R:=
 f79.p0_r' L N k z13
def f79.b' {R:Type} (L N:Nat) (k:Bool→Option R) (w0:Int→Int→LI→Int→Int→LLM→Option R) (x0:Graph) (x1:Int) (x2:Int) (x3:LI) (x4:Int):Option R:=
 w0 x1 x2 x3 x4 (0:Int) x0.moves
def f79.b {R:Type} (L N:Nat) (k:Bool→Option R) (x0:Graph) (x1:Int) (x2:Int) (x3:LI) (x4:Int):Option R:=
 f79.b' L N k (fun s0 s1 s2 s3 s4 s5=>f79.l0 L N (f79.p0_e0 L N k) (fun z13=>f79.p0_r L N k z13) L s0 s1 s2 s3 s4 s5) x0 x1 x2 x3 x4
def f79 (L N:Nat) (x0:Graph) (x1:Int) (x2:Int) (x3:LI) (x4:Int):Option (Bool):=f79.b L N some x0 x1 x2 x3 x4
def f79.ent (L N:Nat):=entRo [(.st 2),i64,i64,(.sl i64),i64] (.one .bool) fun d=>f79 L N d.1 d.2.1 d.2.2.1 d.2.2.2.1 d.2.2.2.2.1
noncomputable def E79 (L N:Nat):Env:={P:=Tryz.prog,ty:=tyOf,Φ:=(Φ45 L N),inl:=inlT,live:=lives,liveX:=livesX,L:=L,dp:=none,prom:=promT,heal:=healT,ren:=renT}
noncomputable def f79.c0:Code:=loopAt 0 (codeOf Tryz.f79)
def f79.X0_e0 {R:Type} (κ:KX R):=κ (.exit 0) f79.T0_e0 f79.H0_e0
def f79.X0_r {R:Type} (κ:KX R):=fun z13=>κ .ret (f79.T0_r z13) (f79.H0_r z13)
def f79.R0 {R:Type} (rec:KT R):=fun s0 s1 s2 s3 s4 s5=>rec (f79.T0 s0 s1 s2 s3 s4 s5) (f79.H0 s0 s1 s2 s3 s4 s5)
theorem f79.s0_eq {R:Type} (L N:Nat) (κ:KX R) (rec:KT R) (s0:Int) (s1:Int) (s2:LI) (s3:Int) (s4:Int) (s5:LLM):
  evRd (E79 L N) (evCallI (E79 L N) 0 1000) 1000 79 44 0 f79.c0 κ rec (f79.T0 s0 s1 s2 s3 s4 s5) (f79.H0 s0 s1 s2 s3 s4 s5)
  =f79.s0 L N (f79.X0_e0 κ) (f79.X0_r κ) (f79.R0 rec) s0 s1 s2 s3 s4 s5:=by kernel_rfl
theorem f79.l0_eq {R:Type} (L N:Nat) (κ:KX R):∀(n:Nat) (s0:Int) (s1:Int) (s2:LI) (s3:Int) (s4:Int) (s5:LLM),
  evLp (E79 L N) (evCallI (E79 L N) 0 1000) 1000 79 44 0 f79.c0 κ n (f79.T0 s0 s1 s2 s3 s4 s5) (f79.H0 s0 s1 s2 s3 s4 s5)
  =f79.l0 L N (f79.X0_e0 κ) (f79.X0_r κ) n s0 s1 s2 s3 s4 s5:=by
 intro n
 induction n with
 |zero=>intros;rfl
 |succ n ih=>
  intro s0 s1 s2 s3 s4 s5
  rw [evLp_succ,f79.s0_eq]
  delta f79.R0
  simp only [ih]
  rfl
theorem f79.p0_e0_eq {R:Type} (L N:Nat) (κ:AV→Option R):
  (contAt (E79 L N) (evCallI (E79 L N) 0 1000) 1000 79 44 0 (codeOf Tryz.f79) (finK (E79 L N) 1000 Tryz.f79 (finC (.one .bool) κ))) (.exit 0) f79.T0_e0 f79.H0_e0
  =f79.p0_e0 L N (fun a0=>κ (.tv .bool a0)):=by kernel_rfl
theorem f79.p0_r_eq {R:Type} (L N:Nat) (κ:AV→Option R) (z13:Bool):
  (contAt (E79 L N) (evCallI (E79 L N) 0 1000) 1000 79 44 0 (codeOf Tryz.f79) (finK (E79 L N) 1000 Tryz.f79 (finC (.one .bool) κ))) .ret (f79.T0_r z13) (f79.H0_r z13)
  =f79.p0_r L N (fun a0=>κ (.tv .bool a0)) z13:=by kernel_rfl
theorem f79.b_eq {R:Type} (L N:Nat) (κ:AV→Option R) (x0:Graph) (x1:Int) (x2:Int) (x3:LI) (x4:Int):
  evBody (E79 L N) (evCallI (E79 L N) 0 1000) 1000 79 Tryz.f79 [(.tv (.st 2) x0),(.tv i64 x1),(.tv i64 x2),(.tv (.sl i64) x3),(.tv i64 x4)] [] [] (finC (.one .bool) κ)
  =f79.b L N (fun a0=>κ (.tv .bool a0)) x0 x1 x2 x3 x4:=by
 refine Eq.trans (b:=f79.b' L N (fun a0=>κ (.tv .bool a0)) (fun s0 s1 s2 s3 s4 s5=>evLp (E79 L N) (evCallI (E79 L N) 0 1000) 1000 79 44 0 f79.c0 (contAt (E79 L N) (evCallI (E79 L N) 0 1000) 1000 79 44 0 (codeOf Tryz.f79) (finK (E79 L N) 1000 Tryz.f79 (finC (.one .bool) κ))) L (f79.T0 s0 s1 s2 s3 s4 s5) (f79.H0 s0 s1 s2 s3 s4 s5)) x0 x1 x2 x3 x4) (by kernel_rfl) ?_
 unfold f79.b
 simp only [f79.l0_eq]
 delta f79.X0_e0 f79.X0_r
 simp only [f79.p0_e0_eq,f79.p0_r_eq]
theorem f79.ok (L N:Nat) (hΦ:TellsOk Tryz.prog ((Φ45 L N))):EntOk Tryz.prog 79 (f79.ent L N):=entRo_ok (E:=(E79 L N)) (dep:=1000) (f:=Tryz.f79) (sound_of hΦ) okP (callI_sound (sound_of hΦ) okP 0 1000) rfl rfl fun d _ hy=>(f79.b_eq L N (unR (.one .bool)) d.1 d.2.1 d.2.2.1 d.2.2.2.1 d.2.2.2.2.1).trans (Eq.trans (b:=f79.b L N some d.1 d.2.1 d.2.2.1 d.2.2.2.1 d.2.2.2.2.1) (by kernel_rfl) hy)
def Φ79 (L N:Nat):Tells:=(addT (Φ45 L N) 79 (f79.ent L N))
theorem Φ79_ok (L N:Nat):TellsOk Tryz.prog (Φ79 L N):=addT_ok (Φ45_ok L N) (f79.ok L N (Φ45_ok L N))
def f191.s0' {R:Type} (L N:Nat) (k0_e0:Option R) (k0_r:Bool→Option R) (rec0:Int→Int→LI→Int→LLM→Option R) (s0:Int) (s1:Int) (s2:LI) (s3:Int) (s4:LLM):Option R:=
 bif (decide (0≤s0)&&decide (s0<(s4.length:Int))) then
  bif (decide (s3<((listAt s4 [] s0.toNat).length:Int))) then
   bif (decide (0≤s0)&&decide (s0<(s4.length:Int))) then
    bif (decide (0≤s3)&&decide (s3<((listAt s4 [] s0.toNat).length:Int))) then
     bif (decide (0≤(listAt (listAt s4 [] s0.toNat) (Ty.dflt (.st 0)) s3.toNat).to)&&decide ((listAt (listAt s4 [] s0.toNat) (Ty.dflt (.st 0)) s3.toNat).to<(s2.length:Int))) then
      (f79 L N (Graph.mk s4) s1 ((listAt (listAt s4 [] s0.toNat) (Ty.dflt (.st 0)) s3.toNat).act) s2 (listAt s2 (0:Int) ((listAt (listAt s4 [] s0.toNat) (Ty.dflt (.st 0)) s3.toNat).to).toNat)).bind fun y5=>
      bif (!y5) then
       k0_r false
      else rec0 s0 s1 s2 (wi (s3+(1:Int))) s4
     else none
    else none
   else none
  else k0_e0
 else none
def f191.s0 {R:Type} (L N:Nat) (k0_e0:Option R) (k0_r:Bool→Option R) (rec0:Int→Int→LI→Int→LLM→Option R) (s0:Int) (s1:Int) (s2:LI) (s3:Int) (s4:LLM):Option R:=
 f191.s0' L N k0_e0 k0_r rec0 s0 s1 s2 s3 s4
def f191.l0 {R:Type} (L N:Nat) (k0_e0:Option R) (k0_r:Bool→Option R):Nat→Int→Int→LI→Int→LLM→Option R
 |0,_,_,_,_,_=>none
 |n+1,s0,s1,s2,s3,s4=>f191.s0 L N k0_e0 k0_r (f191.l0 L N k0_e0 k0_r n) s0 s1 s2 s3 s4
def f191.T0 (s0:Int) (s1:Int) (s2:LI) (s3:Int) (s4:LLM):T:=mkT 41 [(1,(.tv i64 s0)),(2,(.tv i64 s1)),(3,(.tv (.sl i64) s2)),(4,(.ptr 1004 0)),(9,(.tv i64 s3))]
def f191.H0 (s0:Int) (s1:Int) (s2:LI) (s3:Int) (s4:LLM):H:=[(1004,(.box [(.tv (.sl (.sl (.st 0))) s4)]))]
def f191.T0_e0:T:=mkT 41 []
def f191.H0_e0:H:=[]
def f191.T0_r (z6:Bool):T:=mkT 41 [(8,(.tv .bool z6))]
def f191.H0_r (z6:Bool):H:=[]
def f191.p0_e0' {R:Type} (L N:Nat) (k:Bool→Option R):Option R:=
 k true
def f191.p0_e0 {R:Type} (L N:Nat) (k:Bool→Option R):Option R:=
 f191.p0_e0' L N k
def f191.p0_r' {R:Type} (L N:Nat) (k:Bool→Option R) (z6:Bool):Option R:=
 k z6
def f191.p0_r {R:Type} (L N:Nat) (k:Bool→Option R) (z6:Bool):Option R:=
 f191.p0_r' L N k z6
def f191.b' {R:Type} (L N:Nat) (k:Bool→Option R) (w0:Int→Int→LI→Int→LLM→Option R) (x0:Graph) (x1:Int) (x2:Int) (x3:LI):Option R:=
 w0 x1 x2 x3 (0:Int) x0.moves
def f191.b {R:Type} (L N:Nat) (k:Bool→Option R) (x0:Graph) (x1:Int) (x2:Int) (x3:LI):Option R:=
 f191.b' L N k (fun s0 s1 s2 s3 s4=>f191.l0 L N (f191.p0_e0 L N k) (fun z6=>f191.p0_r L N k z6) L s0 s1 s2 s3 s4) x0 x1 x2 x3
def f191 (L N:Nat) (x0:Graph) (x1:Int) (x2:Int) (x3:LI):Option (Bool):=f191.b L N some x0 x1 x2 x3
def f191.ent (L N:Nat):=entRo [(.st 2),i64,i64,(.sl i64)] (.one .bool) fun d=>f191 L N d.1 d.2.1 d.2.2.1 d.2.2.2.1
noncomputable def E191 (L N:Nat):Env:={P:=Tryz.prog,ty:=tyOf,Φ:=(Φ79 L N),inl:=inlT,live:=lives,liveX:=livesX,L:=L,dp:=none,prom:=promT,heal:=healT,ren:=renT}
noncomputable def f191.c0:Code:=loopAt 0 (codeOf Tryz.f191)
def f191.X0_e0 {R:Type} (κ:KX R):=κ (.exit 0) f191.T0_e0 f191.H0_e0
def f191.X0_r {R:Type} (κ:KX R):=fun z6=>κ .ret (f191.T0_r z6) (f191.H0_r z6)
def f191.R0 {R:Type} (rec:KT R):=fun s0 s1 s2 s3 s4=>rec (f191.T0 s0 s1 s2 s3 s4) (f191.H0 s0 s1 s2 s3 s4)
theorem f191.s0_eq {R:Type} (L N:Nat) (κ:KX R) (rec:KT R) (s0:Int) (s1:Int) (s2:LI) (s3:Int) (s4:LLM):
  evRd (E191 L N) (evCallI (E191 L N) 0 1000) 1000 191 41 0 f191.c0 κ rec (f191.T0 s0 s1 s2 s3 s4) (f191.H0 s0 s1 s2 s3 s4)
  =f191.s0 L N (f191.X0_e0 κ) (f191.X0_r κ) (f191.R0 rec) s0 s1 s2 s3 s4:=by kernel_rfl
theorem f191.l0_eq {R:Type} (L N:Nat) (κ:KX R):∀(n:Nat) (s0:Int) (s1:Int) (s2:LI) (s3:Int) (s4:LLM),
  evLp (E191 L N) (evCallI (E191 L N) 0 1000) 1000 191 41 0 f191.c0 κ n (f191.T0 s0 s1 s2 s3 s4) (f191.H0 s0 s1 s2 s3 s4)
  =f191.l0 L N (f191.X0_e0 κ) (f191.X0_r κ) n s0 s1 s2 s3 s4:=by
 intro n
 induction n with
 |zero=>intros;rfl
 |succ n ih=>
  intro s0 s1 s2 s3 s4
  rw [evLp_succ,f191.s0_eq]
  delta f191.R0
  simp only [ih]
  rfl
theorem f191.p0_e0_eq {R:Type} (L N:Nat) (κ:AV→Option R):
  (contAt (E191 L N) (evCallI (E191 L N) 0 1000) 1000 191 41 0 (codeOf Tryz.f191) (finK (E191 L N) 1000 Tryz.f191 (finC (.one .bool) κ))) (.exit 0) f191.T0_e0 f191.H0_e0
  =f191.p0_e0 L N (fun a0=>κ (.tv .bool a0)):=by kernel_rfl
theorem f191.p0_r_eq {R:Type} (L N:Nat) (κ:AV→Option R) (z6:Bool):
  (contAt (E191 L N) (evCallI (E191 L N) 0 1000) 1000 191 41 0 (codeOf Tryz.f191) (finK (E191 L N) 1000 Tryz.f191 (finC (.one .bool) κ))) .ret (f191.T0_r z6) (f191.H0_r z6)
  =f191.p0_r L N (fun a0=>κ (.tv .bool a0)) z6:=by kernel_rfl
theorem f191.b_eq {R:Type} (L N:Nat) (κ:AV→Option R) (x0:Graph) (x1:Int) (x2:Int) (x3:LI):
  evBody (E191 L N) (evCallI (E191 L N) 0 1000) 1000 191 Tryz.f191 [(.tv (.st 2) x0),(.tv i64 x1),(.tv i64 x2),(.tv (.sl i64) x3)] [] [] (finC (.one .bool) κ)
  =f191.b L N (fun a0=>κ (.tv .bool a0)) x0 x1 x2 x3:=by
 refine Eq.trans (b:=f191.b' L N (fun a0=>κ (.tv .bool a0)) (fun s0 s1 s2 s3 s4=>evLp (E191 L N) (evCallI (E191 L N) 0 1000) 1000 191 41 0 f191.c0 (contAt (E191 L N) (evCallI (E191 L N) 0 1000) 1000 191 41 0 (codeOf Tryz.f191) (finK (E191 L N) 1000 Tryz.f191 (finC (.one .bool) κ))) L (f191.T0 s0 s1 s2 s3 s4) (f191.H0 s0 s1 s2 s3 s4)) x0 x1 x2 x3) (by kernel_rfl) ?_
 unfold f191.b
 simp only [f191.l0_eq]
 delta f191.X0_e0 f191.X0_r
 simp only [f191.p0_e0_eq,f191.p0_r_eq]
theorem f191.ok (L N:Nat) (hΦ:TellsOk Tryz.prog ((Φ79 L N))):EntOk Tryz.prog 191 (f191.ent L N):=entRo_ok (E:=(E191 L N)) (dep:=1000) (f:=Tryz.f191) (sound_of hΦ) okP (callI_sound (sound_of hΦ) okP 0 1000) rfl rfl fun d _ hy=>(f191.b_eq L N (unR (.one .bool)) d.1 d.2.1 d.2.2.1 d.2.2.2.1).trans (Eq.trans (b:=f191.b L N some d.1 d.2.1 d.2.2.1 d.2.2.2.1) (by kernel_rfl) hy)
def Φ191 (L N:Nat):Tells:=(addT (Φ79 L N) 191 (f191.ent L N))
theorem Φ191_ok (L N:Nat):TellsOk Tryz.prog (Φ191 L N):=addT_ok (Φ79_ok L N) (f191.ok L N (Φ79_ok L N))
def f160.s1' {R:Type} (L N:Nat) (k1_e2:LI→Int→Int→LLM→LI→Option R) (rec1:LI→Int→Int→Int→LLM→LI→Option R) (s5:LI) (s6:Int) (s7:Int) (s8:Int) (s9:LLM) (s10:LI):Option R:=
 bif (decide (s8≥(0:Int))) then
  bif (decide (0≤s8)&&decide (s8<(s5.length:Int))) then
   bif (decide (0≤s6)&&decide (s6<(s5.length:Int))) then
    bif ((listAt s5 (0:Int) s8.toNat)==(listAt s5 (0:Int) s6.toNat)) then
     (f191 L N (Graph.mk s9) s6 s8 s5).bind fun y16=>
     bif y16 then
      (f191 L N (Graph.mk s9) s8 s6 s5).bind fun y17=>
      bif y17 then
       rec1 s5 s6 s8 (wi (s8-(1:Int))) s9 s10
      else rec1 s5 s6 s7 (wi (s8-(1:Int))) s9 s10
     else rec1 s5 s6 s7 (wi (s8-(1:Int))) s9 s10
    else rec1 s5 s6 s7 (wi (s8-(1:Int))) s9 s10
   else none
  else none
 else k1_e2 s5 s6 s7 s9 s10
def f160.s1 {R:Type} (L N:Nat) (k1_e2:LI→Int→Int→LLM→LI→Option R) (rec1:LI→Int→Int→Int→LLM→LI→Option R) (s5:LI) (s6:Int) (s7:Int) (s8:Int) (s9:LLM) (s10:LI):Option R:=
 f160.s1' L N k1_e2 rec1 s5 s6 s7 s8 s9 s10
def f160.l1 {R:Type} (L N:Nat) (k1_e2:LI→Int→Int→LLM→LI→Option R):Nat→LI→Int→Int→Int→LLM→LI→Option R
 |0,_,_,_,_,_,_=>none
 |n+1,s5,s6,s7,s8,s9,s10=>f160.s1 L N k1_e2 (f160.l1 L N k1_e2 n) s5 s6 s7 s8 s9 s10
def f160.T1 (s5:LI) (s6:Int) (s7:Int) (s8:Int) (s9:LLM) (s10:LI):T:=mkT 52 [(1,(.tv (.sl i64) s5)),(2,(.ptr 1002 0)),(5,(.row 1009)),(6,(.tv i64 s6)),(7,(.tv i64 s7)),(8,(.tv i64 s8))]
def f160.H1 (s5:LI) (s6:Int) (s7:Int) (s8:Int) (s9:LLM) (s10:LI):H:=[(1002,(.box [(.tv (.sl (.sl (.st 0))) s9)])),(1009,(.row 3 i64 s10))]
def f160.T1_e2 (z11:LI) (z12:Int) (z13:Int) (z14:LLM) (z15:LI):T:=mkT 52 [(1,(.tv (.sl i64) z11)),(2,(.ptr 1002 0)),(5,(.row 1009)),(6,(.tv i64 z12)),(7,(.tv i64 z13))]
def f160.H1_e2 (z11:LI) (z12:Int) (z13:Int) (z14:LLM) (z15:LI):H:=[(1002,(.box [(.tv (.sl (.sl (.st 0))) z14)])),(1009,(.row 3 i64 z15))]
def f160.p1_e2' {R:Type} (L N:Nat) (k0_e0:LI→Option R) (rec0:LI→Int→LLM→LI→Option R) (z11:LI) (z12:Int) (z13:Int) (z14:LLM) (z15:LI):Option R:=
 bif (decide (z15.length+([z13]:LI).length≤lim)) then
  rec0 z11 (wi (z12+(1:Int))) z14 (z15++([z13]:LI))
 else none
def f160.p1_e2 {R:Type} (L N:Nat) (k0_e0:LI→Option R) (rec0:LI→Int→LLM→LI→Option R) (z11:LI) (z12:Int) (z13:Int) (z14:LLM) (z15:LI):Option R:=
 f160.p1_e2' L N k0_e0 rec0 z11 z12 z13 z14 z15
def f160.s0' {R:Type} (L N:Nat) (k0_e0:LI→Option R) (rec0:LI→Int→LLM→LI→Option R) (w1:LI→Int→Int→Int→LLM→LI→Option R) (s0:LI) (s1:Int) (s2:LLM) (s3:LI):Option R:=
 bif (decide (s1<(s0.length:Int))) then
  w1 s0 s1 s1 (wi (s1-(1:Int))) s2 s3
 else k0_e0 s3
def f160.s0 {R:Type} (L N:Nat) (k0_e0:LI→Option R) (rec0:LI→Int→LLM→LI→Option R) (s0:LI) (s1:Int) (s2:LLM) (s3:LI):Option R:=
 f160.s0' L N k0_e0 rec0 (fun s5 s6 s7 s8 s9 s10=>f160.l1 L N (fun z11 z12 z13 z14 z15=>f160.p1_e2 L N k0_e0 rec0 z11 z12 z13 z14 z15) L s5 s6 s7 s8 s9 s10) s0 s1 s2 s3
def f160.l0 {R:Type} (L N:Nat) (k0_e0:LI→Option R):Nat→LI→Int→LLM→LI→Option R
 |0,_,_,_,_=>none
 |n+1,s0,s1,s2,s3=>f160.s0 L N k0_e0 (f160.l0 L N k0_e0 n) s0 s1 s2 s3
def f160.T0 (s0:LI) (s1:Int) (s2:LLM) (s3:LI):T:=mkT 52 [(1,(.tv (.sl i64) s0)),(2,(.ptr 1002 0)),(5,(.row 1009)),(6,(.tv i64 s1))]
def f160.H0 (s0:LI) (s1:Int) (s2:LLM) (s3:LI):H:=[(1002,(.box [(.tv (.sl (.sl (.st 0))) s2)])),(1009,(.row 3 i64 s3))]
def f160.T0_e0 (z4:LI):T:=mkT 52 [(5,(.row 1009))]
def f160.H0_e0 (z4:LI):H:=[(1009,(.row 3 i64 z4))]
def f160.p0_e0' {R:Type} (L N:Nat) (k:LI→Option R) (z4:LI):Option R:=
 k z4
def f160.p0_e0 {R:Type} (L N:Nat) (k:LI→Option R) (z4:LI):Option R:=
 f160.p0_e0' L N k z4
def f160.b' {R:Type} (L N:Nat) (k:LI→Option R) (w0:LI→Int→LLM→LI→Option R) (x0:Graph) (x1:LI):Option R:=
 w0 x1 (0:Int) x0.moves ([]:LI)
def f160.b {R:Type} (L N:Nat) (k:LI→Option R) (x0:Graph) (x1:LI):Option R:=
 f160.b' L N k (fun s0 s1 s2 s3=>f160.l0 L N (fun z4=>f160.p0_e0 L N k z4) L s0 s1 s2 s3) x0 x1
def f160 (L N:Nat) (x0:Graph) (x1:LI):Option (LI):=f160.b L N some x0 x1
def f160.ent (L N:Nat):=entDa [(.st 2),(.sl i64)] (.one (.sl i64)) fun d=>f160 L N d.1 d.2.1
noncomputable def E160 (L N:Nat):Env:={P:=Tryz.prog,ty:=tyOf,Φ:=(Φ191 L N),inl:=inlT,live:=lives,liveX:=livesX,L:=L,dp:=none,prom:=promT,heal:=healT,ren:=renT}
noncomputable def f160.c0:Code:=loopAt 0 (codeOf Tryz.f160)
noncomputable def f160.c1:Code:=loopAt 2 f160.c0
def f160.X1_e2 {R:Type} (κ:KX R):=fun z11 z12 z13 z14 z15=>κ (.exit 2) (f160.T1_e2 z11 z12 z13 z14 z15) (f160.H1_e2 z11 z12 z13 z14 z15)
def f160.R1 {R:Type} (rec:KT R):=fun s5 s6 s7 s8 s9 s10=>rec (f160.T1 s5 s6 s7 s8 s9 s10) (f160.H1 s5 s6 s7 s8 s9 s10)
theorem f160.s1_eq {R:Type} (L N:Nat) (κ:KX R) (rec:KT R) (s5:LI) (s6:Int) (s7:Int) (s8:Int) (s9:LLM) (s10:LI):
  evRd (E160 L N) (evCallI (E160 L N) 0 1000) 1000 160 52 2 f160.c1 κ rec (f160.T1 s5 s6 s7 s8 s9 s10) (f160.H1 s5 s6 s7 s8 s9 s10)
  =f160.s1 L N (f160.X1_e2 κ) (f160.R1 rec) s5 s6 s7 s8 s9 s10:=by kernel_rfl
theorem f160.l1_eq {R:Type} (L N:Nat) (κ:KX R):∀(n:Nat) (s5:LI) (s6:Int) (s7:Int) (s8:Int) (s9:LLM) (s10:LI),
  evLp (E160 L N) (evCallI (E160 L N) 0 1000) 1000 160 52 2 f160.c1 κ n (f160.T1 s5 s6 s7 s8 s9 s10) (f160.H1 s5 s6 s7 s8 s9 s10)
  =f160.l1 L N (f160.X1_e2 κ) n s5 s6 s7 s8 s9 s10:=by
 intro n
 induction n with
 |zero=>intros;rfl
 |succ n ih=>
  intro s5 s6 s7 s8 s9 s10
  rw [evLp_succ,f160.s1_eq]
  delta f160.R1
  simp only [ih]
  rfl
def f160.X0_e0 {R:Type} (κ:KX R):=fun z4=>κ (.exit 0) (f160.T0_e0 z4) (f160.H0_e0 z4)
def f160.R0 {R:Type} (rec:KT R):=fun s0 s1 s2 s3=>rec (f160.T0 s0 s1 s2 s3) (f160.H0 s0 s1 s2 s3)
theorem f160.p1_e2_eq {R:Type} (L N:Nat) (κ:KX R) (rec:KT R) (z11:LI) (z12:Int) (z13:Int) (z14:LLM) (z15:LI):
  (contAt (E160 L N) (evCallI (E160 L N) 0 1000) 1000 160 52 2 f160.c0 (rdK (E160 L N) 1000 160 52 0 κ rec)) (.exit 2) (f160.T1_e2 z11 z12 z13 z14 z15) (f160.H1_e2 z11 z12 z13 z14 z15)
  =f160.p1_e2 L N (f160.X0_e0 κ) (f160.R0 rec) z11 z12 z13 z14 z15:=by kernel_rfl
theorem f160.s0_eq {R:Type} (L N:Nat) (κ:KX R) (rec:KT R) (s0:LI) (s1:Int) (s2:LLM) (s3:LI):
  evRd (E160 L N) (evCallI (E160 L N) 0 1000) 1000 160 52 0 f160.c0 κ rec (f160.T0 s0 s1 s2 s3) (f160.H0 s0 s1 s2 s3)
  =f160.s0 L N (f160.X0_e0 κ) (f160.R0 rec) s0 s1 s2 s3:=by
 refine Eq.trans (b:=f160.s0' L N (f160.X0_e0 κ) (f160.R0 rec) (fun s5 s6 s7 s8 s9 s10=>evLp (E160 L N) (evCallI (E160 L N) 0 1000) 1000 160 52 2 f160.c1 (contAt (E160 L N) (evCallI (E160 L N) 0 1000) 1000 160 52 2 f160.c0 (rdK (E160 L N) 1000 160 52 0 κ rec)) L (f160.T1 s5 s6 s7 s8 s9 s10) (f160.H1 s5 s6 s7 s8 s9 s10)) s0 s1 s2 s3) (by kernel_rfl) ?_
 unfold f160.s0
 simp only [f160.l1_eq]
 delta f160.X1_e2
 simp only [f160.p1_e2_eq]
theorem f160.l0_eq {R:Type} (L N:Nat) (κ:KX R):∀(n:Nat) (s0:LI) (s1:Int) (s2:LLM) (s3:LI),
  evLp (E160 L N) (evCallI (E160 L N) 0 1000) 1000 160 52 0 f160.c0 κ n (f160.T0 s0 s1 s2 s3) (f160.H0 s0 s1 s2 s3)
  =f160.l0 L N (f160.X0_e0 κ) n s0 s1 s2 s3:=by
 intro n
 induction n with
 |zero=>intros;rfl
 |succ n ih=>
  intro s0 s1 s2 s3
  rw [evLp_succ,f160.s0_eq]
  delta f160.R0
  simp only [ih]
  rfl
theorem f160.p0_e0_eq {R:Type} (L N:Nat) (κ:AV→Option R) (z4:LI):
  (contAt (E160 L N) (evCallI (E160 L N) 0 1000) 1000 160 52 0 (codeOf Tryz.f160) (finK (E160 L N) 1000 Tryz.f160 (finC (.one (.sl i64)) κ))) (.exit 0) (f160.T0_e0 z4) (f160.H0_e0 z4)
  =f160.p0_e0 L N (fun a0=>κ (.tv (.sl i64) a0)) z4:=by kernel_rfl
theorem f160.b_eq {R:Type} (L N:Nat) (κ:AV→Option R) (x0:Graph) (x1:LI):
  evBody (E160 L N) (evCallI (E160 L N) 0 1000) 1000 160 Tryz.f160 [(.tv (.st 2) x0),(.tv (.sl i64) x1)] [] [] (finC (.one (.sl i64)) κ)
  =f160.b L N (fun a0=>κ (.tv (.sl i64) a0)) x0 x1:=by
 refine Eq.trans (b:=f160.b' L N (fun a0=>κ (.tv (.sl i64) a0)) (fun s0 s1 s2 s3=>evLp (E160 L N) (evCallI (E160 L N) 0 1000) 1000 160 52 0 f160.c0 (contAt (E160 L N) (evCallI (E160 L N) 0 1000) 1000 160 52 0 (codeOf Tryz.f160) (finK (E160 L N) 1000 Tryz.f160 (finC (.one (.sl i64)) κ))) L (f160.T0 s0 s1 s2 s3) (f160.H0 s0 s1 s2 s3)) x0 x1) (by kernel_rfl) ?_
 unfold f160.b
 simp only [f160.l0_eq]
 delta f160.X0_e0
 simp only [f160.p0_e0_eq]
theorem f160.ok (L N:Nat) (hΦ:TellsOk Tryz.prog ((Φ191 L N))):EntOk Tryz.prog 160 (f160.ent L N):=entDa_ok (E:=(E160 L N)) (dep:=1000) (f:=Tryz.f160) (sound_of hΦ) okP (callI_sound (sound_of hΦ) okP 0 1000) rfl fun d _ hy=>(f160.b_eq L N (unR (.one (.sl i64))) d.1 d.2.1).trans (Eq.trans (b:=f160.b L N some d.1 d.2.1) (by kernel_rfl) hy)
def Φ160 (L N:Nat):Tells:=(addT (Φ191 L N) 160 (f160.ent L N))
theorem Φ160_ok (L N:Nat):TellsOk Tryz.prog (Φ160 L N):=addT_ok (Φ191_ok L N) (f160.ok L N (Φ191_ok L N))
def f161.s0' {R:Type} (L N:Nat) (k0_e0:Option R) (k0_r:Bool→Option R) (rec0:LI→LI→Int→Option R) (s0:LI) (s1:LI) (s2:Int):Option R:=
 bif (decide (s2<(s0.length:Int))) then
  bif (decide (0≤s2)&&decide (s2<(s0.length:Int))) then
   bif (decide (0≤s2)&&decide (s2<(s1.length:Int))) then
    bif ((listAt s0 (0:Int) s2.toNat) !=(listAt s1 (0:Int) s2.toNat)) then
     k0_r false
    else rec0 s0 s1 (wi (s2+(1:Int)))
   else none
  else none
 else k0_e0
def f161.s0 {R:Type} (L N:Nat) (k0_e0:Option R) (k0_r:Bool→Option R) (rec0:LI→LI→Int→Option R) (s0:LI) (s1:LI) (s2:Int):Option R:=
 f161.s0' L N k0_e0 k0_r rec0 s0 s1 s2
def f161.l0 {R:Type} (L N:Nat) (k0_e0:Option R) (k0_r:Bool→Option R):Nat→LI→LI→Int→Option R
 |0,_,_,_=>none
 |n+1,s0,s1,s2=>f161.s0 L N k0_e0 k0_r (f161.l0 L N k0_e0 k0_r n) s0 s1 s2
def f161.T0 (s0:LI) (s1:LI) (s2:Int):T:=mkT 26 [(0,(.tv (.sl i64) s0)),(1,(.tv (.sl i64) s1)),(5,(.tv i64 s2))]
def f161.H0 (s0:LI) (s1:LI) (s2:Int):H:=[]
def f161.T0_e0:T:=mkT 26 []
def f161.H0_e0:H:=[]
def f161.T0_r (z3:Bool):T:=mkT 26 [(4,(.tv .bool z3))]
def f161.H0_r (z3:Bool):H:=[]
def f161.p0_e0' {R:Type} (L N:Nat) (k:Bool→Option R):Option R:=
 k true
def f161.p0_e0 {R:Type} (L N:Nat) (k:Bool→Option R):Option R:=
 f161.p0_e0' L N k
def f161.p0_r' {R:Type} (L N:Nat) (k:Bool→Option R) (z3:Bool):Option R:=
 k z3
def f161.p0_r {R:Type} (L N:Nat) (k:Bool→Option R) (z3:Bool):Option R:=
 f161.p0_r' L N k z3
def f161.b' {R:Type} (L N:Nat) (k:Bool→Option R) (w0:LI→LI→Int→Option R) (x0:LI) (x1:LI):Option R:=
 bif ((x0.length:Int) !=(x1.length:Int)) then
  k false
 else w0 x0 x1 (0:Int)
def f161.b {R:Type} (L N:Nat) (k:Bool→Option R) (x0:LI) (x1:LI):Option R:=
 f161.b' L N k (fun s0 s1 s2=>f161.l0 L N (f161.p0_e0 L N k) (fun z3=>f161.p0_r L N k z3) L s0 s1 s2) x0 x1
def f161 (L N:Nat) (x0:LI) (x1:LI):Option (Bool):=f161.b L N some x0 x1
def f161.ent (L N:Nat):=entRo [(.sl i64),(.sl i64)] (.one .bool) fun d=>f161 L N d.1 d.2.1
noncomputable def E161 (L N:Nat):Env:={P:=Tryz.prog,ty:=tyOf,Φ:=(Φ160 L N),inl:=inlT,live:=lives,liveX:=livesX,L:=L,dp:=none,prom:=promT,heal:=healT,ren:=renT}
noncomputable def f161.c0:Code:=loopAt 0 (codeOf Tryz.f161)
def f161.X0_e0 {R:Type} (κ:KX R):=κ (.exit 0) f161.T0_e0 f161.H0_e0
def f161.X0_r {R:Type} (κ:KX R):=fun z3=>κ .ret (f161.T0_r z3) (f161.H0_r z3)
def f161.R0 {R:Type} (rec:KT R):=fun s0 s1 s2=>rec (f161.T0 s0 s1 s2) (f161.H0 s0 s1 s2)
theorem f161.s0_eq {R:Type} (L N:Nat) (κ:KX R) (rec:KT R) (s0:LI) (s1:LI) (s2:Int):
  evRd (E161 L N) (evCallI (E161 L N) 0 1000) 1000 161 26 0 f161.c0 κ rec (f161.T0 s0 s1 s2) (f161.H0 s0 s1 s2)
  =f161.s0 L N (f161.X0_e0 κ) (f161.X0_r κ) (f161.R0 rec) s0 s1 s2:=by kernel_rfl
theorem f161.l0_eq {R:Type} (L N:Nat) (κ:KX R):∀(n:Nat) (s0:LI) (s1:LI) (s2:Int),
  evLp (E161 L N) (evCallI (E161 L N) 0 1000) 1000 161 26 0 f161.c0 κ n (f161.T0 s0 s1 s2) (f161.H0 s0 s1 s2)
  =f161.l0 L N (f161.X0_e0 κ) (f161.X0_r κ) n s0 s1 s2:=by
 intro n
 induction n with
 |zero=>intros;rfl
 |succ n ih=>
  intro s0 s1 s2
  rw [evLp_succ,f161.s0_eq]
  delta f161.R0
  simp only [ih]
  rfl
theorem f161.p0_e0_eq {R:Type} (L N:Nat) (κ:AV→Option R):
  (contAt (E161 L N) (evCallI (E161 L N) 0 1000) 1000 161 26 0 (codeOf Tryz.f161) (finK (E161 L N) 1000 Tryz.f161 (finC (.one .bool) κ))) (.exit 0) f161.T0_e0 f161.H0_e0
  =f161.p0_e0 L N (fun a0=>κ (.tv .bool a0)):=by kernel_rfl
theorem f161.p0_r_eq {R:Type} (L N:Nat) (κ:AV→Option R) (z3:Bool):
  (contAt (E161 L N) (evCallI (E161 L N) 0 1000) 1000 161 26 0 (codeOf Tryz.f161) (finK (E161 L N) 1000 Tryz.f161 (finC (.one .bool) κ))) .ret (f161.T0_r z3) (f161.H0_r z3)
  =f161.p0_r L N (fun a0=>κ (.tv .bool a0)) z3:=by kernel_rfl
theorem f161.b_eq {R:Type} (L N:Nat) (κ:AV→Option R) (x0:LI) (x1:LI):
  evBody (E161 L N) (evCallI (E161 L N) 0 1000) 1000 161 Tryz.f161 [(.tv (.sl i64) x0),(.tv (.sl i64) x1)] [] [] (finC (.one .bool) κ)
  =f161.b L N (fun a0=>κ (.tv .bool a0)) x0 x1:=by
 refine Eq.trans (b:=f161.b' L N (fun a0=>κ (.tv .bool a0)) (fun s0 s1 s2=>evLp (E161 L N) (evCallI (E161 L N) 0 1000) 1000 161 26 0 f161.c0 (contAt (E161 L N) (evCallI (E161 L N) 0 1000) 1000 161 26 0 (codeOf Tryz.f161) (finK (E161 L N) 1000 Tryz.f161 (finC (.one .bool) κ))) L (f161.T0 s0 s1 s2) (f161.H0 s0 s1 s2)) x0 x1) (by kernel_rfl) ?_
 unfold f161.b
 simp only [f161.l0_eq]
 delta f161.X0_e0 f161.X0_r
 simp only [f161.p0_e0_eq,f161.p0_r_eq]
theorem f161.ok (L N:Nat) (hΦ:TellsOk Tryz.prog ((Φ160 L N))):EntOk Tryz.prog 161 (f161.ent L N):=entRo_ok (E:=(E161 L N)) (dep:=1000) (f:=Tryz.f161) (sound_of hΦ) okP (callI_sound (sound_of hΦ) okP 0 1000) rfl rfl fun d _ hy=>(f161.b_eq L N (unR (.one .bool)) d.1 d.2.1).trans (Eq.trans (b:=f161.b L N some d.1 d.2.1) (by kernel_rfl) hy)
def Φ161 (L N:Nat):Tells:=(addT (Φ160 L N) 161 (f161.ent L N))
theorem Φ161_ok (L N:Nat):TellsOk Tryz.prog (Φ161 L N):=addT_ok (Φ160_ok L N) (f161.ok L N (Φ160_ok L N))
def f120.s0' {R:Type} (L N:Nat) (k0_r:LLI→Option R) (rec0:LLM→LLI→Option R) (s0:LLM) (s1:LLI):Option R:=
 bif (decide (0≤(wi ((s1.length:Int)-(1:Int))))&&decide ((wi ((s1.length:Int)-(1:Int)))<(s1.length:Int))) then
  (f160 L N (Graph.mk s0) (listAt s1 [] (wi ((s1.length:Int)-(1:Int))).toNat)).bind fun y2=>
  bif (decide (0≤(wi ((s1.length:Int)-(1:Int))))&&decide ((wi ((s1.length:Int)-(1:Int)))<(s1.length:Int))) then
   (f161 L N y2 (listAt s1 [] (wi ((s1.length:Int)-(1:Int))).toNat)).bind fun y3=>
   bif y3 then
    k0_r s1
   else bif (decide (s1.length+([y2]:LLI).length≤lim)) then
    rec0 s0 (s1++([y2]:LLI))
   else none
  else none
 else none
def f120.s0 {R:Type} (L N:Nat) (k0_r:LLI→Option R) (rec0:LLM→LLI→Option R) (s0:LLM) (s1:LLI):Option R:=
 f120.s0' L N k0_r rec0 s0 s1
def f120.l0 {R:Type} (L N:Nat) (k0_r:LLI→Option R):Nat→LLM→LLI→Option R
 |0,_,_=>none
 |n+1,s0,s1=>f120.s0 L N k0_r (f120.l0 L N k0_r n) s0 s1
def f120.T0 (s0:LLM) (s1:LLI):T:=mkT 31 [(1,(.ptr 1001 0)),(3,(.row 1009))]
def f120.H0 (s0:LLM) (s1:LLI):H:=[(1001,(.box [(.tv (.sl (.sl (.st 0))) s0)])),(1009,(.row 32 (.sl i64) s1))]
def f120.T0_r (z4:LLI):T:=mkT 31 [(2,(.row 1009))]
def f120.H0_r (z4:LLI):H:=[(1009,(.row 32 (.sl i64) z4))]
def f120.p0_r' {R:Type} (L N:Nat) (k:LLI→Option R) (z4:LLI):Option R:=
 k z4
def f120.p0_r {R:Type} (L N:Nat) (k:LLI→Option R) (z4:LLI):Option R:=
 f120.p0_r' L N k z4
def f120.b' {R:Type} (L N:Nat) (k:LLI→Option R) (w0:LLM→LLI→Option R) (x0:Graph):Option R:=
 bif (decide (0≤(x0.moves.length:Int))&&decide ((x0.moves.length:Int)≤(lim:Int))) then
  w0 x0.moves ([(List.replicate (x0.moves.length:Int).toNat (0:Int))]:LLI)
 else none
def f120.b {R:Type} (L N:Nat) (k:LLI→Option R) (x0:Graph):Option R:=
 f120.b' L N k (fun s0 s1=>f120.l0 L N (fun z4=>f120.p0_r L N k z4) L s0 s1) x0
def f120 (L N:Nat) (x0:Graph):Option (LLI):=f120.b L N some x0
def f120.ent (L N:Nat):=entDa [(.st 2)] (.one (.sl (.sl i64))) fun d=>f120 L N d.1
noncomputable def E120 (L N:Nat):Env:={P:=Tryz.prog,ty:=tyOf,Φ:=(Φ161 L N),inl:=inlT,live:=lives,liveX:=livesX,L:=L,dp:=none,prom:=promT,heal:=healT,ren:=renT}
noncomputable def f120.c0:Code:=loopAt 0 (codeOf Tryz.f120)
def f120.X0_r {R:Type} (κ:KX R):=fun z4=>κ .ret (f120.T0_r z4) (f120.H0_r z4)
def f120.R0 {R:Type} (rec:KT R):=fun s0 s1=>rec (f120.T0 s0 s1) (f120.H0 s0 s1)
theorem f120.s0_eq {R:Type} (L N:Nat) (κ:KX R) (rec:KT R) (s0:LLM) (s1:LLI):
  evRd (E120 L N) (evCallI (E120 L N) 0 1000) 1000 120 31 0 f120.c0 κ rec (f120.T0 s0 s1) (f120.H0 s0 s1)
  =f120.s0 L N (f120.X0_r κ) (f120.R0 rec) s0 s1:=by kernel_rfl
theorem f120.l0_eq {R:Type} (L N:Nat) (κ:KX R):∀(n:Nat) (s0:LLM) (s1:LLI),
  evLp (E120 L N) (evCallI (E120 L N) 0 1000) 1000 120 31 0 f120.c0 κ n (f120.T0 s0 s1) (f120.H0 s0 s1)
  =f120.l0 L N (f120.X0_r κ) n s0 s1:=by
 intro n
 induction n with
 |zero=>intros;rfl
 |succ n ih=>
  intro s0 s1
  rw [evLp_succ,f120.s0_eq]
  delta f120.R0
  simp only [ih]
  rfl
theorem f120.p0_r_eq {R:Type} (L N:Nat) (κ:AV→Option R) (z4:LLI):
  (contAt (E120 L N) (evCallI (E120 L N) 0 1000) 1000 120 31 0 (codeOf Tryz.f120) (finK (E120 L N) 1000 Tryz.f120 (finC (.one (.sl (.sl i64))) κ))) .ret (f120.T0_r z4) (f120.H0_r z4)
  =f120.p0_r L N (fun a0=>κ (.tv (.sl (.sl i64)) a0)) z4:=by kernel_rfl
theorem f120.b_eq {R:Type} (L N:Nat) (κ:AV→Option R) (x0:Graph):
  evBody (E120 L N) (evCallI (E120 L N) 0 1000) 1000 120 Tryz.f120 [(.tv (.st 2) x0)] [] [] (finC (.one (.sl (.sl i64))) κ)
  =f120.b L N (fun a0=>κ (.tv (.sl (.sl i64)) a0)) x0:=by
 refine Eq.trans (b:=f120.b' L N (fun a0=>κ (.tv (.sl (.sl i64)) a0)) (fun s0 s1=>evLp (E120 L N) (evCallI (E120 L N) 0 1000) 1000 120 31 0 f120.c0 (contAt (E120 L N) (evCallI (E120 L N) 0 1000) 1000 120 31 0 (codeOf Tryz.f120) (finK (E120 L N) 1000 Tryz.f120 (finC (.one (.sl (.sl i64))) κ))) L (f120.T0 s0 s1) (f120.H0 s0 s1)) x0) (by kernel_rfl) ?_
 unfold f120.b
 simp only [f120.l0_eq]
 delta f120.X0_r
 simp only [f120.p0_r_eq]
theorem f120.ok (L N:Nat) (hΦ:TellsOk Tryz.prog ((Φ161 L N))):EntOk Tryz.prog 120 (f120.ent L N):=entDa_ok (E:=(E120 L N)) (dep:=1000) (f:=Tryz.f120) (sound_of hΦ) okP (callI_sound (sound_of hΦ) okP 0 1000) rfl fun d _ hy=>(f120.b_eq L N (unR (.one (.sl (.sl i64)))) d.1).trans (Eq.trans (b:=f120.b L N some d.1) (by kernel_rfl) hy)
def Φ120 (L N:Nat):Tells:=(addT (Φ161 L N) 120 (f120.ent L N))
theorem Φ120_ok (L N:Nat):TellsOk Tryz.prog (Φ120 L N):=addT_ok (Φ161_ok L N) (f120.ok L N (Φ161_ok L N))
def f76.b' {R:Type} (L N:Nat) (k:LI→Option R) (x0:Graph):Option R:=
 (f120 L N (Graph.mk x0.moves)).bind fun y0=>
 bif (decide (0≤(wi ((y0.length:Int)-(1:Int))))&&decide ((wi ((y0.length:Int)-(1:Int)))<(y0.length:Int))) then
  k (listAt y0 [] (wi ((y0.length:Int)-(1:Int))).toNat)
 else none
def f76.b {R:Type} (L N:Nat) (k:LI→Option R) (x0:Graph):Option R:=
 f76.b' L N k x0
def f76 (L N:Nat) (x0:Graph):Option (LI):=f76.b L N some x0
def f76.ent (L N:Nat):=entDa [(.st 2)] (.one (.sl i64)) fun d=>f76 L N d.1
noncomputable def E76 (L N:Nat):Env:={P:=Tryz.prog,ty:=tyOf,Φ:=(Φ120 L N),inl:=inlT,live:=lives,liveX:=livesX,L:=L,dp:=none,prom:=promT,heal:=healT,ren:=renT}
theorem f76.b_eq {R:Type} (L N:Nat) (κ:AV→Option R) (x0:Graph):
  evBody (E76 L N) (evCallI (E76 L N) 0 1000) 1000 76 Tryz.f76 [(.tv (.st 2) x0)] [] [] (finC (.one (.sl i64)) κ)
  =f76.b L N (fun a0=>κ (.tv (.sl i64) a0)) x0:=by kernel_rfl
theorem f76.ok (L N:Nat) (hΦ:TellsOk Tryz.prog ((Φ120 L N))):EntOk Tryz.prog 76 (f76.ent L N):=entDa_ok (E:=(E76 L N)) (dep:=1000) (f:=Tryz.f76) (sound_of hΦ) okP (callI_sound (sound_of hΦ) okP 0 1000) rfl fun d _ hy=>(f76.b_eq L N (unR (.one (.sl i64))) d.1).trans (Eq.trans (b:=f76.b L N some d.1) (by kernel_rfl) hy)
def Φ76 (L N:Nat):Tells:=(addT (Φ120 L N) 76 (f76.ent L N))
theorem Φ76_ok (L N:Nat):TellsOk Tryz.prog (Φ76 L N):=addT_ok (Φ120_ok L N) (f76.ok L N (Φ120_ok L N))
def f44.b' {R:Type} (L N:Nat) (k:LI→Option R) (x0:Graph):Option R:=
 (f75 L N (Graph.mk x0.moves)).bind fun y0=>
 bif (!y0) then
  k ([]:LI)
 else (f45 L N (Graph.mk x0.moves) false).bind fun y1=>
 (f76 L N y1).bind fun y2=>
 k y2
def f44.b {R:Type} (L N:Nat) (k:LI→Option R) (x0:Graph):Option R:=
 f44.b' L N k x0
def f44 (L N:Nat) (x0:Graph):Option (LI):=f44.b L N some x0
def f44.ent (L N:Nat):=entDa [(.st 2)] (.one (.sl i64)) fun d=>f44 L N d.1
noncomputable def E44 (L N:Nat):Env:={P:=Tryz.prog,ty:=tyOf,Φ:=(Φ76 L N),inl:=inlT,live:=lives,liveX:=livesX,L:=L,dp:=none,prom:=promT,heal:=healT,ren:=renT}
theorem f44.b_eq {R:Type} (L N:Nat) (κ:AV→Option R) (x0:Graph):
  evBody (E44 L N) (evCallI (E44 L N) 0 1000) 1000 44 Tryz.f44 [(.tv (.st 2) x0)] [] [] (finC (.one (.sl i64)) κ)
  =f44.b L N (fun a0=>κ (.tv (.sl i64) a0)) x0:=by kernel_rfl
theorem f44.ok (L N:Nat) (hΦ:TellsOk Tryz.prog ((Φ76 L N))):EntOk Tryz.prog 44 (f44.ent L N):=entDa_ok (E:=(E44 L N)) (dep:=1000) (f:=Tryz.f44) (sound_of hΦ) okP (callI_sound (sound_of hΦ) okP 0 1000) rfl fun d _ hy=>(f44.b_eq L N (unR (.one (.sl i64))) d.1).trans (Eq.trans (b:=f44.b L N some d.1) (by kernel_rfl) hy)
def Φ44 (L N:Nat):Tells:=(addT (Φ76 L N) 44 (f44.ent L N))
theorem Φ44_ok (L N:Nat):TellsOk Tryz.prog (Φ44 L N):=addT_ok (Φ76_ok L N) (f44.ok L N (Φ76_ok L N))
def f27.b' {R:Type} (L N:Nat) (k:Bool→Bool→Option R) (x0:Tree) (x1:Tree) (x2:LT):Option R:=
 (f43 L N (Tree.mk x0.op x0.n x0.parts) (Tree.mk x1.op x1.n x1.parts) x2).bind fun y0=>
 bif (!y0.2.2) then
  k false false
 else (f44 L N (Graph.mk y0.1.moves)).bind fun y1=>
 bif (decide (0≤y0.2.1)&&decide (y0.2.1<(y1.length:Int))) then
  k ((listAt y1 (0:Int) y0.2.1.toNat)==(0:Int)) true
 else none
def f27.b {R:Type} (L N:Nat) (k:Bool→Bool→Option R) (x0:Tree) (x1:Tree) (x2:LT):Option R:=
 f27.b' L N k x0 x1 x2
def f27 (L N:Nat) (x0:Tree) (x1:Tree) (x2:LT):Option (Bool×Bool):=f27.b L N (fun a0 a1=>some (a0,a1)) x0 x1 x2
def f27.ent (L N:Nat):=entRo [(.st 1),(.st 1),(.sl (.st 1))] (.many [.bool,.bool]) fun d=>f27 L N d.1 d.2.1 d.2.2.1
noncomputable def E27 (L N:Nat):Env:={P:=Tryz.prog,ty:=tyOf,Φ:=(Φ44 L N),inl:=inlT,live:=lives,liveX:=livesX,L:=L,dp:=none,prom:=promT,heal:=healT,ren:=renT}
theorem f27.b_eq {R:Type} (L N:Nat) (κ:AV→Option R) (x0:Tree) (x1:Tree) (x2:LT):
  evBody (E27 L N) (evCallI (E27 L N) 0 1000) 1000 27 Tryz.f27 [(.tv (.st 1) x0),(.tv (.st 1) x1),(.tv (.sl (.st 1)) x2)] [] [] (finC (.many [.bool,.bool]) κ)
  =f27.b L N (fun a0 a1=>κ (.tup [(.tv .bool a0),(.tv .bool a1)])) x0 x1 x2:=by kernel_rfl
theorem f27.ok (L N:Nat) (hΦ:TellsOk Tryz.prog ((Φ44 L N))):EntOk Tryz.prog 27 (f27.ent L N):=entRo_ok (E:=(E27 L N)) (dep:=1000) (f:=Tryz.f27) (sound_of hΦ) okP (callI_sound (sound_of hΦ) okP 0 1000) rfl rfl fun d _ hy=>(f27.b_eq L N (unR (.many [.bool,.bool])) d.1 d.2.1 d.2.2.1).trans (Eq.trans (b:=f27.b L N (fun a0 a1=>some (a0,a1)) d.1 d.2.1 d.2.2.1) (by kernel_rfl) hy)
def Φ27 (L N:Nat):Tells:=(addT (Φ44 L N) 27 (f27.ent L N))
theorem Φ27_ok (L N:Nat):TellsOk Tryz.prog (Φ27 L N):=addT_ok (Φ44_ok L N) (f27.ok L N (Φ44_ok L N))
def f28.b' {R:Type} (L N:Nat) (self28:Tree→Option (Int×Int×LT)) (self29:LT→Option (LT)) (k:Int→Int→LT→Option R) (x0:Tree):Option R:=
 (self29 x0.parts).bind fun y0=>
 k x0.op x0.n y0
def f28.b {R:Type} (L N:Nat) (self28:Tree→Option (Int×Int×LT)) (self29:LT→Option (LT)) (k:Int→Int→LT→Option R) (x0:Tree):Option R:=
 f28.b' L N self28 self29 k x0
def f29.s0' {R:Type} (L N:Nat) (self28:Tree→Option (Int×Int×LT)) (self29:LT→Option (LT)) (k0_e0:LT→Option R) (rec0:LT→Int→LT→Option R) (s0:LT) (s1:Int) (s2:LT):Option R:=
 bif (decide (s1<(s0.length:Int))) then
  bif (decide (0≤s1)&&decide (s1<(s0.length:Int))) then
   (self28 (listAt s0 (Ty.dflt (.st 1)) s1.toNat)).bind fun y4=>
   bif (decide (0≤s1)&&decide (s1<(s2.length:Int))) then
    rec0 s0 (wi (s1+(1:Int))) (s2.set s1.toNat (Tree.mk y4.1 y4.2.1 y4.2.2))
   else none
  else none
 else k0_e0 s2
def f29.s0 {R:Type} (L N:Nat) (self28:Tree→Option (Int×Int×LT)) (self29:LT→Option (LT)) (k0_e0:LT→Option R) (rec0:LT→Int→LT→Option R) (s0:LT) (s1:Int) (s2:LT):Option R:=
 f29.s0' L N self28 self29 k0_e0 rec0 s0 s1 s2
def f29.l0 {R:Type} (L N:Nat) (self28:Tree→Option (Int×Int×LT)) (self29:LT→Option (LT)) (k0_e0:LT→Option R):Nat→LT→Int→LT→Option R
 |0,_,_,_=>none
 |n+1,s0,s1,s2=>f29.s0 L N self28 self29 k0_e0 (f29.l0 L N self28 self29 k0_e0 n) s0 s1 s2
def f29.T0 (s0:LT) (s1:Int) (s2:LT):T:=mkT 23 [(0,(.tv (.sl (.st 1)) s0)),(3,(.row 1007)),(4,(.tv i64 s1))]
def f29.H0 (s0:LT) (s1:Int) (s2:LT):H:=[(1007,(.deep 0 (.st 1) s2 none))]
def f29.T0_e0 (z3:LT):T:=mkT 23 [(3,(.row 1007))]
def f29.H0_e0 (z3:LT):H:=[(1007,(.deep 0 (.st 1) z3 none))]
def f29.p0_e0' {R:Type} (L N:Nat) (self28:Tree→Option (Int×Int×LT)) (self29:LT→Option (LT)) (k:LT→Option R) (z3:LT):Option R:=
 k z3
def f29.p0_e0 {R:Type} (L N:Nat) (self28:Tree→Option (Int×Int×LT)) (self29:LT→Option (LT)) (k:LT→Option R) (z3:LT):Option R:=
 f29.p0_e0' L N self28 self29 k z3
def f29.b' {R:Type} (L N:Nat) (self28:Tree→Option (Int×Int×LT)) (self29:LT→Option (LT)) (k:LT→Option R) (w0:LT→Int→LT→Option R) (x0:LT):Option R:=
 bif (decide (0≤(x0.length:Int))&&decide ((x0.length:Int)≤(lim:Int))) then
  w0 x0 (0:Int) (List.replicate (x0.length:Int).toNat (Ty.dflt (.st 1)))
 else none
def f29.b {R:Type} (L N:Nat) (self28:Tree→Option (Int×Int×LT)) (self29:LT→Option (LT)) (k:LT→Option R) (x0:LT):Option R:=
 f29.b' L N self28 self29 k (fun s0 s1 s2=>f29.l0 L N self28 self29 (fun z3=>f29.p0_e0 L N self28 self29 k z3) L s0 s1 s2) x0
mutual
def f28 (L N:Nat):Nat→Tree→Option (Int×Int×LT)
 |0,_=>none
 |n+1,x0=>f28.b L N (f28 L N n) (f29 L N n) (fun a0 a1 a2=>some (a0,a1,a2)) x0
def f29 (L N:Nat):Nat→LT→Option (LT)
 |0,_=>none
 |n+1,x0=>f29.b L N (f28 L N n) (f29 L N n) some x0
end
def f28.ent (L N m:Nat) (args:List AV) (vw:View) (site:Nat):Ans:=match roD [(.st 1)] vw args with
 |some d=>⟨Int×Int×LT,f28 L N m d.1,fun y=>(RN.av site (.agg [i64,i64]) (y.1,y.2.1,()),[(site,some (mkO (some 0) 25 (.st 1) y.2.2))],[])⟩
 |none=>Ans.no
def f29.ent (L N m:Nat) (args:List AV) (vw:View) (site:Nat):Ans:=match roD [(.sl (.st 1))] vw args with
 |some d=>⟨LT,f29 L N m d.1,fun y=>(RN.av site .row (),[(site,some (mkO (some 0) 25 (.st 1) y))],[])⟩
 |none=>Ans.no
def Φ28s (L N m:Nat):Tells:=(addT (addT (Φ27 L N) 28 (f28.ent L N m)) 29 (f29.ent L N m))
noncomputable def E28 (L N m:Nat):Env:={P:=Tryz.prog,ty:=tyOf,Φ:=Φ28s L N m,inl:=inlT,live:=lives,liveX:=livesX,L:=L,dp:=(some 0),prom:=promT,heal:=healT,ren:=renT}
theorem f28.b_eq {R:Type} (L N m:Nat) (κ:RN.Den (.agg [i64,i64])→List Tree→Option R) (x0:Tree):
  evBody (E28 L N m) (evCallI (E28 L N m) 0 1000) 1000 28 Tryz.f28 [(.tv (.st 1) x0)] [] [] (finN (.agg [i64,i64]) (some 0) 25 (.st 1) κ)
  =f28.b L N (f28 L N m) (f29 L N m) (fun a0 a1 a2=>κ (a0,a1,()) a2) x0:=by kernel_rfl
noncomputable def f29.c0:Code:=loopAt 0 (codeOf Tryz.f29)
def f29.X0_e0 {R:Type} (κ:KX R):=fun z3=>κ (.exit 0) (f29.T0_e0 z3) (f29.H0_e0 z3)
def f29.R0 {R:Type} (rec:KT R):=fun s0 s1 s2=>rec (f29.T0 s0 s1 s2) (f29.H0 s0 s1 s2)
theorem f29.s0_eq {R:Type} (L N m:Nat) (κ:KX R) (rec:KT R) (s0:LT) (s1:Int) (s2:LT):
  evRd (E28 L N m) (evCallI (E28 L N m) 0 1000) 1000 29 23 0 f29.c0 κ rec (f29.T0 s0 s1 s2) (f29.H0 s0 s1 s2)
  =f29.s0 L N (f28 L N m) (f29 L N m) (f29.X0_e0 κ) (f29.R0 rec) s0 s1 s2:=by kernel_rfl
theorem f29.l0_eq {R:Type} (L N m:Nat) (κ:KX R):∀(n:Nat) (s0:LT) (s1:Int) (s2:LT),
  evLp (E28 L N m) (evCallI (E28 L N m) 0 1000) 1000 29 23 0 f29.c0 κ n (f29.T0 s0 s1 s2) (f29.H0 s0 s1 s2)
  =f29.l0 L N (f28 L N m) (f29 L N m) (f29.X0_e0 κ) n s0 s1 s2:=by
 intro n
 induction n with
 |zero=>intros;rfl
 |succ n ih=>
  intro s0 s1 s2
  rw [evLp_succ,f29.s0_eq]
  delta f29.R0
  simp only [ih]
  rfl
theorem f29.p0_e0_eq {R:Type} (L N m:Nat) (κ:RN.Den .row→List Tree→Option R) (z3:LT):
  (contAt (E28 L N m) (evCallI (E28 L N m) 0 1000) 1000 29 23 0 (codeOf Tryz.f29) (finK (E28 L N m) 1000 Tryz.f29 (finN .row (some 0) 25 (.st 1) κ))) (.exit 0) (f29.T0_e0 z3) (f29.H0_e0 z3)
  =f29.p0_e0 L N (f28 L N m) (f29 L N m) (fun a0=>κ () a0) z3:=by kernel_rfl
theorem f29.b_eq {R:Type} (L N m:Nat) (κ:RN.Den .row→List Tree→Option R) (x0:LT):
  evBody (E28 L N m) (evCallI (E28 L N m) 0 1000) 1000 29 Tryz.f29 [(.tv (.sl (.st 1)) x0)] [] [] (finN .row (some 0) 25 (.st 1) κ)
  =f29.b L N (f28 L N m) (f29 L N m) (fun a0=>κ () a0) x0:=by
 refine Eq.trans (b:=f29.b' L N (f28 L N m) (f29 L N m) (fun a0=>κ () a0) (fun s0 s1 s2=>evLp (E28 L N m) (evCallI (E28 L N m) 0 1000) 1000 29 23 0 f29.c0 (contAt (E28 L N m) (evCallI (E28 L N m) 0 1000) 1000 29 23 0 (codeOf Tryz.f29) (finK (E28 L N m) 1000 Tryz.f29 (finN .row (some 0) 25 (.st 1) κ))) L (f29.T0 s0 s1 s2) (f29.H0 s0 s1 s2)) x0) (by kernel_rfl) ?_
 unfold f29.b
 simp only [f29.l0_eq]
 delta f29.X0_e0
 simp only [f29.p0_e0_eq]
theorem f28.ok (L N m:Nat) (hΦ:TellsOk Tryz.prog (Φ28s L N m)):EntOk Tryz.prog 28 (f28.ent L N (m+1)):=by
 intro args vw site h
 unfold f28.ent
 split
 ·rename_i d ha
  intro y hy hs
  refine call_ron (y:=y) (dep:=1000) (E:=(E28 L N m)) (ts:=[(.st 1)]) (rn:=(.agg [i64,i64])) (q:=(some 0)) (el:=25) (ty:=(.st 1)) (d1:=(y.1,y.2.1,())) (xs:=y.2.2) (κ:=(fun d xs=>some (d.1,d.2.1,xs))) (sound_of hΦ) okP (callI_sound (sound_of hΦ) okP 0 1000) (f:=Tryz.f28) rfl hs ha ?_ (fun _ _ h=>by obtain rfl:=Option.some.inj h;exact ⟨rfl,rfl⟩) rfl site
  exact (f28.b_eq L N m (fun d xs=>some (d.1,d.2.1,xs)) d.1).trans (Eq.trans (b:=f28.b L N (f28 L N m) (f29 L N m) (fun a0 a1 a2=>some (a0,a1,a2)) d.1) (by kernel_rfl) hy)
 ·intro y hy
  cases hy
theorem f29.ok (L N m:Nat) (hΦ:TellsOk Tryz.prog (Φ28s L N m)):EntOk Tryz.prog 29 (f29.ent L N (m+1)):=by
 intro args vw site h
 unfold f29.ent
 split
 ·rename_i d ha
  intro y hy hs
  refine call_ron (y:=y) (dep:=1000) (E:=(E28 L N m)) (ts:=[(.sl (.st 1))]) (rn:=.row) (q:=(some 0)) (el:=25) (ty:=(.st 1)) (d1:=()) (xs:=y) (κ:=(fun d xs=>some xs)) (sound_of hΦ) okP (callI_sound (sound_of hΦ) okP 0 1000) (f:=Tryz.f29) rfl hs ha ?_ (fun _ _ h=>by obtain rfl:=Option.some.inj h;exact ⟨rfl,rfl⟩) rfl site
  exact (f29.b_eq L N m (fun d xs=>some xs) d.1).trans (Eq.trans (b:=f29.b L N (f28 L N m) (f29 L N m) some d.1) (by kernel_rfl) hy)
 ·intro y hy
  cases hy
theorem Φ28s_ok (L N:Nat):∀m,TellsOk Tryz.prog (Φ28s L N m):=by
 intro m
 induction m with
 |zero=>exact (addT_ok (addT_ok (Φ27_ok L N) (fun args vw site h=>by unfold f28.ent;split<;>(intro y hy;cases hy))) (fun args vw site h=>by unfold f29.ent;split<;>(intro y hy;cases hy)))
 |succ m ih=>exact (addT_ok (addT_ok (Φ27_ok L N) (f28.ok L N m ih)) (f29.ok L N m ih))
def Φ28 (L N:Nat):Tells:=(addT (addT (Φ27 L N) 28 (f28.ent L N N)) 29 (f29.ent L N N))
theorem Φ28_ok (L N:Nat):TellsOk Tryz.prog (Φ28 L N):=Φ28s_ok L N N
def f30.b' {R:Type} (L N:Nat) (self30:Tree→Tree→Option (Bool)) (self31:LT→LT→Option (Bool)) (k:Bool→Option R) (x0:Tree) (x1:Tree):Option R:=
 bif (x0.op !=x1.op) then
  k false
 else bif (x0.n !=x1.n) then
  k false
 else (self31 x0.parts x1.parts).bind fun y0=>
 bif (!y0) then
  k false
 else k true
def f30.b {R:Type} (L N:Nat) (self30:Tree→Tree→Option (Bool)) (self31:LT→LT→Option (Bool)) (k:Bool→Option R) (x0:Tree) (x1:Tree):Option R:=
 f30.b' L N self30 self31 k x0 x1
def f31.s0' {R:Type} (L N:Nat) (self30:Tree→Tree→Option (Bool)) (self31:LT→LT→Option (Bool)) (k0_e0:Option R) (k0_r:Bool→Option R) (rec0:LT→LT→Int→Option R) (s0:LT) (s1:LT) (s2:Int):Option R:=
 bif (decide (s2<(s0.length:Int))) then
  bif (decide (0≤s2)&&decide (s2<(s0.length:Int))) then
   bif (decide (0≤s2)&&decide (s2<(s1.length:Int))) then
    (self30 (listAt s0 (Ty.dflt (.st 1)) s2.toNat) (listAt s1 (Ty.dflt (.st 1)) s2.toNat)).bind fun y3=>
    bif (!y3) then
     k0_r false
    else rec0 s0 s1 (wi (s2+(1:Int)))
   else none
  else none
 else k0_e0
def f31.s0 {R:Type} (L N:Nat) (self30:Tree→Tree→Option (Bool)) (self31:LT→LT→Option (Bool)) (k0_e0:Option R) (k0_r:Bool→Option R) (rec0:LT→LT→Int→Option R) (s0:LT) (s1:LT) (s2:Int):Option R:=
 f31.s0' L N self30 self31 k0_e0 k0_r rec0 s0 s1 s2
def f31.l0 {R:Type} (L N:Nat) (self30:Tree→Tree→Option (Bool)) (self31:LT→LT→Option (Bool)) (k0_e0:Option R) (k0_r:Bool→Option R):Nat→LT→LT→Int→Option R
 |0,_,_,_=>none
 |n+1,s0,s1,s2=>f31.s0 L N self30 self31 k0_e0 k0_r (f31.l0 L N self30 self31 k0_e0 k0_r n) s0 s1 s2
def f31.T0 (s0:LT) (s1:LT) (s2:Int):T:=mkT 27 [(0,(.tv (.sl (.st 1)) s0)),(1,(.tv (.sl (.st 1)) s1)),(5,(.tv i64 s2))]
def f31.H0 (s0:LT) (s1:LT) (s2:Int):H:=[]
def f31.T0_e0:T:=mkT 27 []
def f31.H0_e0:H:=[]
def f31.T0_r (z4:Bool):T:=mkT 27 [(4,(.tv .bool z4))]
def f31.H0_r (z4:Bool):H:=[]
def f31.p0_e0' {R:Type} (L N:Nat) (self30:Tree→Tree→Option (Bool)) (self31:LT→LT→Option (Bool)) (k:Bool→Option R):Option R:=
 k true
def f31.p0_e0 {R:Type} (L N:Nat) (self30:Tree→Tree→Option (Bool)) (self31:LT→LT→Option (Bool)) (k:Bool→Option R):Option R:=
 f31.p0_e0' L N self30 self31 k
def f31.p0_r' {R:Type} (L N:Nat) (self30:Tree→Tree→Option (Bool)) (self31:LT→LT→Option (Bool)) (k:Bool→Option R) (z4:Bool):Option R:=
 k z4
def f31.p0_r {R:Type} (L N:Nat) (self30:Tree→Tree→Option (Bool)) (self31:LT→LT→Option (Bool)) (k:Bool→Option R) (z4:Bool):Option R:=
 f31.p0_r' L N self30 self31 k z4
def f31.b' {R:Type} (L N:Nat) (self30:Tree→Tree→Option (Bool)) (self31:LT→LT→Option (Bool)) (k:Bool→Option R) (w0:LT→LT→Int→Option R) (x0:LT) (x1:LT):Option R:=
 bif ((x0.length:Int) !=(x1.length:Int)) then
  k false
 else w0 x0 x1 (0:Int)
def f31.b {R:Type} (L N:Nat) (self30:Tree→Tree→Option (Bool)) (self31:LT→LT→Option (Bool)) (k:Bool→Option R) (x0:LT) (x1:LT):Option R:=
 f31.b' L N self30 self31 k (fun s0 s1 s2=>f31.l0 L N self30 self31 (f31.p0_e0 L N self30 self31 k) (fun z4=>f31.p0_r L N self30 self31 k z4) L s0 s1 s2) x0 x1
mutual
def f30 (L N:Nat):Nat→Tree→Tree→Option (Bool)
 |0,_,_=>none
 |n+1,x0,x1=>f30.b L N (f30 L N n) (f31 L N n) some x0 x1
def f31 (L N:Nat):Nat→LT→LT→Option (Bool)
 |0,_,_=>none
 |n+1,x0,x1=>f31.b L N (f30 L N n) (f31 L N n) some x0 x1
end
def f30.ent (L N m:Nat):=entRo [(.st 1),(.st 1)] (.one .bool) fun d=>f30 L N m d.1 d.2.1
def f31.ent (L N m:Nat):=entRo [(.sl (.st 1)),(.sl (.st 1))] (.one .bool) fun d=>f31 L N m d.1 d.2.1
def Φ30s (L N m:Nat):Tells:=(addT (addT (Φ28 L N) 30 (f30.ent L N m)) 31 (f31.ent L N m))
noncomputable def E30 (L N m:Nat):Env:={P:=Tryz.prog,ty:=tyOf,Φ:=Φ30s L N m,inl:=inlT,live:=lives,liveX:=livesX,L:=L,dp:=none,prom:=promT,heal:=healT,ren:=renT}
theorem f30.b_eq {R:Type} (L N m:Nat) (κ:AV→Option R) (x0:Tree) (x1:Tree):
  evBody (E30 L N m) (evCallI (E30 L N m) 0 1000) 1000 30 Tryz.f30 [(.tv (.st 1) x0),(.tv (.st 1) x1)] [] [] (finC (.one .bool) κ)
  =f30.b L N (f30 L N m) (f31 L N m) (fun a0=>κ (.tv .bool a0)) x0 x1:=by kernel_rfl
noncomputable def f31.c0:Code:=loopAt 0 (codeOf Tryz.f31)
def f31.X0_e0 {R:Type} (κ:KX R):=κ (.exit 0) f31.T0_e0 f31.H0_e0
def f31.X0_r {R:Type} (κ:KX R):=fun z4=>κ .ret (f31.T0_r z4) (f31.H0_r z4)
def f31.R0 {R:Type} (rec:KT R):=fun s0 s1 s2=>rec (f31.T0 s0 s1 s2) (f31.H0 s0 s1 s2)
theorem f31.s0_eq {R:Type} (L N m:Nat) (κ:KX R) (rec:KT R) (s0:LT) (s1:LT) (s2:Int):
  evRd (E30 L N m) (evCallI (E30 L N m) 0 1000) 1000 31 27 0 f31.c0 κ rec (f31.T0 s0 s1 s2) (f31.H0 s0 s1 s2)
  =f31.s0 L N (f30 L N m) (f31 L N m) (f31.X0_e0 κ) (f31.X0_r κ) (f31.R0 rec) s0 s1 s2:=by kernel_rfl
theorem f31.l0_eq {R:Type} (L N m:Nat) (κ:KX R):∀(n:Nat) (s0:LT) (s1:LT) (s2:Int),
  evLp (E30 L N m) (evCallI (E30 L N m) 0 1000) 1000 31 27 0 f31.c0 κ n (f31.T0 s0 s1 s2) (f31.H0 s0 s1 s2)
  =f31.l0 L N (f30 L N m) (f31 L N m) (f31.X0_e0 κ) (f31.X0_r κ) n s0 s1 s2:=by
 intro n
 induction n with
 |zero=>intros;rfl
 |succ n ih=>
  intro s0 s1 s2
  rw [evLp_succ,f31.s0_eq]
  delta f31.R0
  simp only [ih]
  rfl
theorem f31.p0_e0_eq {R:Type} (L N m:Nat) (κ:AV→Option R):
  (contAt (E30 L N m) (evCallI (E30 L N m) 0 1000) 1000 31 27 0 (codeOf Tryz.f31) (finK (E30 L N m) 1000 Tryz.f31 (finC (.one .bool) κ))) (.exit 0) f31.T0_e0 f31.H0_e0
  =f31.p0_e0 L N (f30 L N m) (f31 L N m) (fun a0=>κ (.tv .bool a0)):=by kernel_rfl
theorem f31.p0_r_eq {R:Type} (L N m:Nat) (κ:AV→Option R) (z4:Bool):
  (contAt (E30 L N m) (evCallI (E30 L N m) 0 1000) 1000 31 27 0 (codeOf Tryz.f31) (finK (E30 L N m) 1000 Tryz.f31 (finC (.one .bool) κ))) .ret (f31.T0_r z4) (f31.H0_r z4)
  =f31.p0_r L N (f30 L N m) (f31 L N m) (fun a0=>κ (.tv .bool a0)) z4:=by kernel_rfl
theorem f31.b_eq {R:Type} (L N m:Nat) (κ:AV→Option R) (x0:LT) (x1:LT):
  evBody (E30 L N m) (evCallI (E30 L N m) 0 1000) 1000 31 Tryz.f31 [(.tv (.sl (.st 1)) x0),(.tv (.sl (.st 1)) x1)] [] [] (finC (.one .bool) κ)
  =f31.b L N (f30 L N m) (f31 L N m) (fun a0=>κ (.tv .bool a0)) x0 x1:=by
 refine Eq.trans (b:=f31.b' L N (f30 L N m) (f31 L N m) (fun a0=>κ (.tv .bool a0)) (fun s0 s1 s2=>evLp (E30 L N m) (evCallI (E30 L N m) 0 1000) 1000 31 27 0 f31.c0 (contAt (E30 L N m) (evCallI (E30 L N m) 0 1000) 1000 31 27 0 (codeOf Tryz.f31) (finK (E30 L N m) 1000 Tryz.f31 (finC (.one .bool) κ))) L (f31.T0 s0 s1 s2) (f31.H0 s0 s1 s2)) x0 x1) (by kernel_rfl) ?_
 unfold f31.b
 simp only [f31.l0_eq]
 delta f31.X0_e0 f31.X0_r
 simp only [f31.p0_e0_eq,f31.p0_r_eq]
theorem f30.ok (L N m:Nat) (hΦ:TellsOk Tryz.prog (Φ30s L N m)):EntOk Tryz.prog 30 (f30.ent L N (m+1)):=entRo_ok (E:=(E30 L N m)) (dep:=1000) (f:=Tryz.f30) (sound_of hΦ) okP (callI_sound (sound_of hΦ) okP 0 1000) rfl rfl fun d _ hy=>(f30.b_eq L N m (unR (.one .bool)) d.1 d.2.1).trans (Eq.trans (b:=f30.b L N (f30 L N m) (f31 L N m) some d.1 d.2.1) (by kernel_rfl) hy)
theorem f31.ok (L N m:Nat) (hΦ:TellsOk Tryz.prog (Φ30s L N m)):EntOk Tryz.prog 31 (f31.ent L N (m+1)):=entRo_ok (E:=(E30 L N m)) (dep:=1000) (f:=Tryz.f31) (sound_of hΦ) okP (callI_sound (sound_of hΦ) okP 0 1000) rfl rfl fun d _ hy=>(f31.b_eq L N m (unR (.one .bool)) d.1 d.2.1).trans (Eq.trans (b:=f31.b L N (f30 L N m) (f31 L N m) some d.1 d.2.1) (by kernel_rfl) hy)
theorem Φ30s_ok (L N:Nat):∀m,TellsOk Tryz.prog (Φ30s L N m):=by
 intro m
 induction m with
 |zero=>exact (addT_ok (addT_ok (Φ28_ok L N) (entRo_no fun _=>rfl)) (entRo_no fun _=>rfl))
 |succ m ih=>exact (addT_ok (addT_ok (Φ28_ok L N) (f30.ok L N m ih)) (f31.ok L N m ih))
def Φ30 (L N:Nat):Tells:=(addT (addT (Φ28 L N) 30 (f30.ent L N N)) 31 (f31.ent L N N))
theorem Φ30_ok (L N:Nat):TellsOk Tryz.prog (Φ30 L N):=Φ30s_ok L N N
def f7.j0' {R:Type} (L N:Nat) (k:Bool→Option R) (v26:LT) (v27:Int) (v28:Int) (v29:LT) (v30:Int) (v31:Int) (v32:LT) (v33:Int) (v34:Int) (v35:Int) (v36:Int) (v37:LT) (v38:LT) (v39:LT):Option R:=
 (f28 L N N (Tree.mk v27 v28 v29)).bind fun y40=>
 (f30 L N N (Tree.mk v33 v34 v37) (Tree.mk y40.1 y40.2.1 y40.2.2)).bind fun y41=>
 bif (!y41) then
  k false
 else (f28 L N N (Tree.mk v30 v31 v32)).bind fun y42=>
 (f30 L N N (Tree.mk v35 v36 v38) (Tree.mk y42.1 y42.2.1 y42.2.2)).bind fun y43=>
 bif (!y43) then
  k false
 else (f29 L N N v26).bind fun y44=>
 (f31 L N N v39 y44).bind fun y45=>
 bif (!y45) then
  k false
 else k true
def f7.b' {R:Type} (L N:Nat) (k:Bool→Option R) (x0:Tree) (x1:Tree) (x2:LT):Option R:=
 (f25 L N N (Tree.mk x0.op x0.n x0.parts) (1048576:Int)).bind fun y0=>
 bif (decide (y0<(0:Int))) then
  k true
 else (f25 L N N (Tree.mk x1.op x1.n x1.parts) y0).bind fun y1=>
 bif (decide (y1<(0:Int))) then
  k true
 else (f26 L N N x2 y1).bind fun y2=>
 bif (decide (y2<(0:Int))) then
  k true
 else (f28 L N N (Tree.mk x0.op x0.n x0.parts)).bind fun y3=>
 (f28 L N N (Tree.mk x1.op x1.n x1.parts)).bind fun y4=>
 (f29 L N N x2).bind fun y5=>
 (f27 L N (Tree.mk y3.1 y3.2.1 y3.2.2) (Tree.mk y4.1 y4.2.1 y4.2.2) y5).bind fun y6=>
 (f28 L N N (Tree.mk x0.op x0.n x0.parts)).bind fun y7=>
 (f28 L N N (Tree.mk x1.op x1.n x1.parts)).bind fun y8=>
 (f29 L N N x2).bind fun y9=>
 (f14 L N (Tree.mk y7.1 y7.2.1 y7.2.2) (Tree.mk y8.1 y8.2.1 y8.2.2) y9).bind fun y10=>
 bif (!(y10.1==y6.1)) then
  k false
 else bif (!(y10.2==y6.2)) then
  k false
 else f7.j0' L N k x2 x0.op x0.n x0.parts x1.op x1.n x1.parts y7.1 y7.2.1 y8.1 y8.2.1 y7.2.2 y8.2.2 y9
def f7.b {R:Type} (L N:Nat) (k:Bool→Option R) (x0:Tree) (x1:Tree) (x2:LT):Option R:=
 f7.b' L N k x0 x1 x2
def f7 (L N:Nat) (x0:Tree) (x1:Tree) (x2:LT):Option (Bool):=f7.b L N some x0 x1 x2
def f7.ent (L N:Nat):=entRo [(.st 1),(.st 1),(.sl (.st 1))] (.one .bool) fun d=>f7 L N d.1 d.2.1 d.2.2.1
noncomputable def E7 (L N:Nat):Env:={P:=Tryz.prog,ty:=tyOf,Φ:=(Φ30 L N),inl:=inlT,live:=lives,liveX:=livesX,L:=L,dp:=none,prom:=promT,heal:=healT,ren:=renT}
theorem f7.b_eq {R:Type} (L N:Nat) (κ:AV→Option R) (x0:Tree) (x1:Tree) (x2:LT):
  evBody (E7 L N) (evCallI (E7 L N) 0 1000) 1000 7 Tryz.f7 [(.tv (.st 1) x0),(.tv (.st 1) x1),(.tv (.sl (.st 1)) x2)] [] [] (finC (.one .bool) κ)
  =f7.b L N (fun a0=>κ (.tv .bool a0)) x0 x1 x2:=by kernel_rfl
theorem f7.ok (L N:Nat) (hΦ:TellsOk Tryz.prog ((Φ30 L N))):EntOk Tryz.prog 7 (f7.ent L N):=entRo_ok (E:=(E7 L N)) (dep:=1000) (f:=Tryz.f7) (sound_of hΦ) okP (callI_sound (sound_of hΦ) okP 0 1000) rfl rfl fun d _ hy=>(f7.b_eq L N (unR (.one .bool)) d.1 d.2.1 d.2.2.1).trans (Eq.trans (b:=f7.b L N some d.1 d.2.1 d.2.2.1) (by kernel_rfl) hy)
def Φ7 (L N:Nat):Tells:=(addT (Φ30 L N) 7 (f7.ent L N))
theorem Φ7_ok (L N:Nat):TellsOk Tryz.prog (Φ7 L N):=addT_ok (Φ30_ok L N) (f7.ok L N (Φ30_ok L N))
end Go.Proofs.YthidlhjjnaldhaaGreatDoor.Ev
