/- The seat's functions as plain functions, continued: made by program (wip/gen/gen.py). -/
import Derived.Test.YtffkhhblppfbfaaGreatDoorGS5a
namespace Go.Proofs.YtffkhhblppfbfaaGreatDoor.Ev
open Go
set_option linter.unusedVariables false
set_option maxRecDepth 20000
def f112.T2 (s23:LT) (s24:Int) (s25:Int) (s26:ByteArray) (s27:Int) (s28:LT) (s29:LY) (s30:LS) (s31:LM) (s32:LLM):T:=mkT 106 [(1,(.tv (.sl (.st 1)) s23)),(4,(.ptr 1004 0)),(6,(.row 1016)),(7,(.row 1019)),(8,(.ptr 1008 0)),(9,(.tv i64 s24)),(10,(.row 1032)),(11,(.row 1033)),(12,(.tv i64 s25)),(13,(.tv .str s26)),(14,(.tv i64 s27))]
def f112.H2 (s23:LT) (s24:Int) (s25:Int) (s26:ByteArray) (s27:Int) (s28:LT) (s29:LY) (s30:LS) (s31:LM) (s32:LLM):H:=[(1004,(.box [.nil])),(1008,(.box [(.row 1900)])),(1016,(.row 107 (.st 1) s28)),(1019,(.row 9 .str s29)),(1032,(.row 156 (.st 3) s30)),(1033,(.row 48 (.st 0) s31)),(1900,(.row 46 (.sl (.st 0)) s32))]
def f112.T2_e4 (z44:LT) (z45:Int) (z46:Int) (z47:ByteArray) (z48:Int) (z49:LT) (z50:LY) (z51:LS) (z52:LM) (z53:LLM):T:=mkT 106 [(1,(.tv (.sl (.st 1)) z44)),(4,(.ptr 1004 0)),(6,(.row 1016)),(7,(.row 1019)),(8,(.ptr 1008 0)),(9,(.tv i64 z45)),(10,(.row 1032)),(11,(.row 1033)),(12,(.tv i64 z46)),(13,(.tv .str z47)),(14,(.tv i64 z48))]
def f112.H2_e4 (z44:LT) (z45:Int) (z46:Int) (z47:ByteArray) (z48:Int) (z49:LT) (z50:LY) (z51:LS) (z52:LM) (z53:LLM):H:=[(1004,(.box [.nil])),(1008,(.box [(.row 1900)])),(1016,(.row 107 (.st 1) z49)),(1019,(.row 9 .str z50)),(1032,(.row 156 (.st 3) z51)),(1033,(.row 48 (.st 0) z52)),(1900,(.row 46 (.sl (.st 0)) z53))]
def f112.j1' {R:Type} (L N:Nat) (k1_e2:LT→Int→LT→LY→LM→LLM→Option R) (k1_r:LT→Bool→Int→LT→LY→LM→LLM→Option R) (rec1:LT→Int→Int→LT→LY→LS→LM→LLM→Option R) (v93:LT) (v94:Int) (v95:Int) (v96:Int) (v97:LT) (v98:LY) (v99:LS) (v100:LM) (v101:LLM):Option R:=
 bif (decide (0≤v95)&&decide (v95<(v99.length:Int))) then
  bif (decide (v100.length+([(Move.mk ((listAt v99 (Ty.dflt (.st 3)) v95.toNat).act) v96)]:LM).length≤lim)) then
   rec1 v93 v94 (wi (v95+(1:Int))) v97 v98 v99 (v100++([(Move.mk ((listAt v99 (Ty.dflt (.st 3)) v95.toNat).act) v96)]:LM)) v101
  else none
 else none
def f112.j0' {R:Type} (L N:Nat) (k1_e2:LT→Int→LT→LY→LM→LLM→Option R) (k1_r:LT→Bool→Int→LT→LY→LM→LLM→Option R) (rec1:LT→Int→Int→LT→LY→LS→LM→LLM→Option R) (v83:LT) (v84:Int) (v85:Int) (v86:ByteArray) (v87:Int) (v88:LT) (v89:LY) (v90:LS) (v91:LM) (v92:LLM):Option R:=
 bif (decide (0≤v85)&&decide (v85<(v90.length:Int))) then
  bif (decide (v88.length+([(Tree.mk ((listAt v90 (Ty.dflt (.st 3)) v85.toNat).thn.op) ((listAt v90 (Ty.dflt (.st 3)) v85.toNat).thn.n) ((listAt v90 (Ty.dflt (.st 3)) v85.toNat).thn.parts))]:LT).length≤lim)) then
   bif (decide (v89.length+([v86]:LY).length≤lim)) then
    f112.j1' L N k1_e2 k1_r rec1 v83 v84 v85 v87 (v88++([(Tree.mk ((listAt v90 (Ty.dflt (.st 3)) v85.toNat).thn.op) ((listAt v90 (Ty.dflt (.st 3)) v85.toNat).thn.n) ((listAt v90 (Ty.dflt (.st 3)) v85.toNat).thn.parts))]:LT)) (v89++([v86]:LY)) v90 v91 v92
   else none
  else none
 else none
def f112.p2_e4' {R:Type} (L N:Nat) (k1_e2:LT→Int→LT→LY→LM→LLM→Option R) (k1_r:LT→Bool→Int→LT→LY→LM→LLM→Option R) (rec1:LT→Int→Int→LT→LY→LS→LM→LLM→Option R) (z44:LT) (z45:Int) (z46:Int) (z47:ByteArray) (z48:Int) (z49:LT) (z50:LY) (z51:LS) (z52:LM) (z53:LLM):Option R:=
 bif (z48==(z50.length:Int)) then
  bif (z48==(60:Int)) then
   k1_r z44 false z45 z49 z50 z52 z53
  else bif (decide (0≤z46)&&decide (z46<(z51.length:Int))) then
   (f143 L N N (Tree.mk ((listAt z51 (Ty.dflt (.st 3)) z46.toNat).thn.op) ((listAt z51 (Ty.dflt (.st 3)) z46.toNat).thn.n) ((listAt z51 (Ty.dflt (.st 3)) z46.toNat).thn.parts))).bind fun y64=>
   bif (decide (y64>(24:Int))) then
    k1_r z44 false z45 z49 z50 z52 z53
   else f112.j0' L N k1_e2 k1_r rec1 z44 z45 z46 z47 z48 z49 z50 z51 z52 z53
  else none
 else f112.j1' L N k1_e2 k1_r rec1 z44 z45 z46 z48 z49 z50 z51 z52 z53
def f112.p2_e4 {R:Type} (L N:Nat) (k1_e2:LT→Int→LT→LY→LM→LLM→Option R) (k1_r:LT→Bool→Int→LT→LY→LM→LLM→Option R) (rec1:LT→Int→Int→LT→LY→LS→LM→LLM→Option R) (z44:LT) (z45:Int) (z46:Int) (z47:ByteArray) (z48:Int) (z49:LT) (z50:LY) (z51:LS) (z52:LM) (z53:LLM):Option R:=
 f112.p2_e4' L N k1_e2 k1_r rec1 z44 z45 z46 z47 z48 z49 z50 z51 z52 z53
def f112.s1' {R:Type} (L N:Nat) (k1_e2:LT→Int→LT→LY→LM→LLM→Option R) (k1_r:LT→Bool→Int→LT→LY→LM→LLM→Option R) (rec1:LT→Int→Int→LT→LY→LS→LM→LLM→Option R) (w2:LT→Int→Int→ByteArray→Int→LT→LY→LS→LM→LLM→Option R) (s8:LT) (s9:Int) (s10:Int) (s11:LT) (s12:LY) (s13:LS) (s14:LM) (s15:LLM):Option R:=
 bif (decide (s10<(s13.length:Int))) then
  bif (decide (0≤s10)&&decide (s10<(s13.length:Int))) then
   (f141 L N N (Tree.mk ((listAt s13 (Ty.dflt (.st 3)) s10.toNat).thn.op) ((listAt s13 (Ty.dflt (.st 3)) s10.toNat).thn.n) ((listAt s13 (Ty.dflt (.st 3)) s10.toNat).thn.parts))).bind fun y22=>
   w2 s8 s9 s10 y22 (0:Int) s11 s12 s13 s14 s15
  else none
 else k1_e2 s8 s9 s11 s12 s14 s15
def f112.s1 {R:Type} (L N:Nat) (k1_e2:LT→Int→LT→LY→LM→LLM→Option R) (k1_r:LT→Bool→Int→LT→LY→LM→LLM→Option R) (rec1:LT→Int→Int→LT→LY→LS→LM→LLM→Option R) (s8:LT) (s9:Int) (s10:Int) (s11:LT) (s12:LY) (s13:LS) (s14:LM) (s15:LLM):Option R:=
 f112.s1' L N k1_e2 k1_r rec1 (fun s23 s24 s25 s26 s27 s28 s29 s30 s31 s32=>f112.l2 L N (fun z44 z45 z46 z47 z48 z49 z50 z51 z52 z53=>f112.p2_e4 L N k1_e2 k1_r rec1 z44 z45 z46 z47 z48 z49 z50 z51 z52 z53) L s23 s24 s25 s26 s27 s28 s29 s30 s31 s32) s8 s9 s10 s11 s12 s13 s14 s15
def f112.l1 {R:Type} (L N:Nat) (k1_e2:LT→Int→LT→LY→LM→LLM→Option R) (k1_r:LT→Bool→Int→LT→LY→LM→LLM→Option R):Nat→LT→Int→Int→LT→LY→LS→LM→LLM→Option R
 |0,_,_,_,_,_,_,_,_=>none
 |n+1,s8,s9,s10,s11,s12,s13,s14,s15=>f112.s1 L N k1_e2 k1_r (f112.l1 L N k1_e2 k1_r n) s8 s9 s10 s11 s12 s13 s14 s15
def f112.T1 (s8:LT) (s9:Int) (s10:Int) (s11:LT) (s12:LY) (s13:LS) (s14:LM) (s15:LLM):T:=mkT 106 [(1,(.tv (.sl (.st 1)) s8)),(4,(.ptr 1004 0)),(6,(.row 1016)),(7,(.row 1019)),(8,(.ptr 1008 0)),(9,(.tv i64 s9)),(10,(.row 1032)),(11,(.row 1033)),(12,(.tv i64 s10))]
def f112.H1 (s8:LT) (s9:Int) (s10:Int) (s11:LT) (s12:LY) (s13:LS) (s14:LM) (s15:LLM):H:=[(1004,(.box [.nil])),(1008,(.box [(.row 1900)])),(1016,(.row 107 (.st 1) s11)),(1019,(.row 9 .str s12)),(1032,(.row 156 (.st 3) s13)),(1033,(.row 48 (.st 0) s14)),(1900,(.row 46 (.sl (.st 0)) s15))]
def f112.T1_e2 (z16:LT) (z17:Int) (z18:LT) (z19:LY) (z20:LM) (z21:LLM):T:=mkT 106 [(1,(.tv (.sl (.st 1)) z16)),(4,(.ptr 1004 0)),(6,(.row 1016)),(7,(.row 1019)),(8,(.ptr 1008 0)),(9,(.tv i64 z17)),(11,(.row 1033))]
def f112.H1_e2 (z16:LT) (z17:Int) (z18:LT) (z19:LY) (z20:LM) (z21:LLM):H:=[(1004,(.box [.nil])),(1008,(.box [(.row 1900)])),(1016,(.row 107 (.st 1) z18)),(1019,(.row 9 .str z19)),(1033,(.row 48 (.st 0) z20)),(1900,(.row 46 (.sl (.st 0)) z21))]
def f112.T1_r (z76:LT) (z77:Bool) (z78:Int) (z79:LT) (z80:LY) (z81:LM) (z82:LLM):T:=mkT 106 [(1,(.tv (.sl (.st 1)) z76)),(4,(.ptr 1004 0)),(5,(.tv .bool z77)),(6,(.row 1016)),(7,(.row 1019)),(8,(.ptr 1008 0)),(9,(.tv i64 z78)),(11,(.row 1033))]
def f112.H1_r (z76:LT) (z77:Bool) (z78:Int) (z79:LT) (z80:LY) (z81:LM) (z82:LLM):H:=[(1004,(.box [.nil])),(1008,(.box [(.row 1900)])),(1016,(.row 107 (.st 1) z79)),(1019,(.row 9 .str z80)),(1033,(.row 48 (.st 0) z81)),(1900,(.row 46 (.sl (.st 0)) z82))]
def f112.p1_e2' {R:Type} (L N:Nat) (k0_e0:LLM→Option R) (k0_r:Bool→LLM→Option R) (rec0:LT→Int→LT→LY→LLM→Option R) (z16:LT) (z17:Int) (z18:LT) (z19:LY) (z20:LM) (z21:LLM):Option R:=
 (f28 L N z20).bind fun y104=>
 bif (decide (z21.length+([y104]:LLM).length≤lim)) then
  rec0 z16 (wi (z17+(1:Int))) z18 z19 (z21++([y104]:LLM))
 else none
def f112.p1_e2 {R:Type} (L N:Nat) (k0_e0:LLM→Option R) (k0_r:Bool→LLM→Option R) (rec0:LT→Int→LT→LY→LLM→Option R) (z16:LT) (z17:Int) (z18:LT) (z19:LY) (z20:LM) (z21:LLM):Option R:=
 f112.p1_e2' L N k0_e0 k0_r rec0 z16 z17 z18 z19 z20 z21
def f112.p1_r' {R:Type} (L N:Nat) (k0_e0:LLM→Option R) (k0_r:Bool→LLM→Option R) (rec0:LT→Int→LT→LY→LLM→Option R) (z76:LT) (z77:Bool) (z78:Int) (z79:LT) (z80:LY) (z81:LM) (z82:LLM):Option R:=
 k0_r z77 z82
def f112.p1_r {R:Type} (L N:Nat) (k0_e0:LLM→Option R) (k0_r:Bool→LLM→Option R) (rec0:LT→Int→LT→LY→LLM→Option R) (z76:LT) (z77:Bool) (z78:Int) (z79:LT) (z80:LY) (z81:LM) (z82:LLM):Option R:=
 f112.p1_r' L N k0_e0 k0_r rec0 z76 z77 z78 z79 z80 z81 z82
def f112.s0' {R:Type} (L N:Nat) (k0_e0:LLM→Option R) (k0_r:Bool→LLM→Option R) (rec0:LT→Int→LT→LY→LLM→Option R) (w1:LT→Int→Int→LT→LY→LS→LM→LLM→Option R) (s1:LT) (s2:Int) (s3:LT) (s4:LY) (s5:LLM):Option R:=
 bif (decide (s2<(s3.length:Int))) then
  bif (decide (0≤s2)&&decide (s2<(s3.length:Int))) then
   (f142 L N N (listAt s3 (Ty.dflt (.st 1)) s2.toNat) s1).bind fun y7=>
   w1 s1 s2 (0:Int) s3 s4 y7 ([]:LM) s5
  else none
 else k0_e0 s5
def f112.s0 {R:Type} (L N:Nat) (k0_e0:LLM→Option R) (k0_r:Bool→LLM→Option R) (rec0:LT→Int→LT→LY→LLM→Option R) (s1:LT) (s2:Int) (s3:LT) (s4:LY) (s5:LLM):Option R:=
 f112.s0' L N k0_e0 k0_r rec0 (fun s8 s9 s10 s11 s12 s13 s14 s15=>f112.l1 L N (fun z16 z17 z18 z19 z20 z21=>f112.p1_e2 L N k0_e0 k0_r rec0 z16 z17 z18 z19 z20 z21) (fun z76 z77 z78 z79 z80 z81 z82=>f112.p1_r L N k0_e0 k0_r rec0 z76 z77 z78 z79 z80 z81 z82) L s8 s9 s10 s11 s12 s13 s14 s15) s1 s2 s3 s4 s5
def f112.l0 {R:Type} (L N:Nat) (k0_e0:LLM→Option R) (k0_r:Bool→LLM→Option R):Nat→LT→Int→LT→LY→LLM→Option R
 |0,_,_,_,_,_=>none
 |n+1,s1,s2,s3,s4,s5=>f112.s0 L N k0_e0 k0_r (f112.l0 L N k0_e0 k0_r n) s1 s2 s3 s4 s5
def f112.T0 (s1:LT) (s2:Int) (s3:LT) (s4:LY) (s5:LLM):T:=mkT 106 [(1,(.tv (.sl (.st 1)) s1)),(4,(.ptr 1004 0)),(6,(.row 1016)),(7,(.row 1019)),(8,(.ptr 1008 0)),(9,(.tv i64 s2))]
def f112.H0 (s1:LT) (s2:Int) (s3:LT) (s4:LY) (s5:LLM):H:=[(1004,(.box [.nil])),(1008,(.box [(.row 1900)])),(1016,(.row 107 (.st 1) s3)),(1019,(.row 9 .str s4)),(1900,(.row 46 (.sl (.st 0)) s5))]
def f112.T0_e0 (z6:LLM):T:=mkT 106 [(4,(.ptr 1004 0)),(8,(.ptr 1008 0))]
def f112.H0_e0 (z6:LLM):H:=[(1004,(.box [.nil])),(1008,(.box [(.row 1900)])),(1900,(.row 46 (.sl (.st 0)) z6))]
def f112.T0_r (z102:Bool) (z103:LLM):T:=mkT 106 [(4,(.ptr 1004 0)),(5,(.tv .bool z102)),(8,(.ptr 1008 0))]
def f112.H0_r (z102:Bool) (z103:LLM):H:=[(1004,(.box [.nil])),(1008,(.box [(.row 1900)])),(1900,(.row 46 (.sl (.st 0)) z103))]
def f112.p0_e0' {R:Type} (L N:Nat) (k:Graph→Bool→Option R) (z6:LLM):Option R:=
 k (Graph.mk z6) true
def f112.p0_e0 {R:Type} (L N:Nat) (k:Graph→Bool→Option R) (z6:LLM):Option R:=
 f112.p0_e0' L N k z6
def f112.p0_r' {R:Type} (L N:Nat) (k:Graph→Bool→Option R) (z102:Bool) (z103:LLM):Option R:=
 k (Graph.mk []) z102
def f112.p0_r {R:Type} (L N:Nat) (k:Graph→Bool→Option R) (z102:Bool) (z103:LLM):Option R:=
 f112.p0_r' L N k z102 z103
def f112.b' {R:Type} (L N:Nat) (k:Graph→Bool→Option R) (w0:LT→Int→LT→LY→LLM→Option R) (x0:Tree) (x1:LT):Option R:=
 (f141 L N N (Tree.mk x0.op x0.n x0.parts)).bind fun y0=>
 w0 x1 (0:Int) ([(Tree.mk x0.op x0.n x0.parts)]:LT) ([y0]:LY) ([]:LLM)
def f112.b {R:Type} (L N:Nat) (k:Graph→Bool→Option R) (x0:Tree) (x1:LT):Option R:=
 f112.b' L N k (fun s1 s2 s3 s4 s5=>f112.l0 L N (fun z6=>f112.p0_e0 L N k z6) (fun z102 z103=>f112.p0_r L N k z102 z103) L s1 s2 s3 s4 s5) x0 x1
def f112 (L N:Nat) (x0:Tree) (x1:LT):Option (Graph×Bool):=f112.b L N (fun a0 a1=>some (a0,a1)) x0 x1
def f112.ent (L N:Nat):=entDa [(.st 1),(.sl (.st 1))] (.many [(.st 2),.bool]) fun d=>f112 L N d.1 d.2.1
noncomputable def E112 (L N:Nat):Env:={P:=Tryz.prog,ty:=tyOf,Φ:=(Φ142 L N),inl:=inlT,live:=lives,liveX:=livesX,L:=L,dp:=none,prom:=promT,heal:=healT,ren:=renT}
noncomputable def f112.c0:Code:=loopAt 0 (codeOf Tryz.f112)
noncomputable def f112.c1:Code:=loopAt 2 f112.c0
noncomputable def f112.c2:Code:=loopAt 4 f112.c1
def f112.X2_e4 {R:Type} (κ:KX R):=fun z44 z45 z46 z47 z48 z49 z50 z51 z52 z53=>κ (.exit 4) (f112.T2_e4 z44 z45 z46 z47 z48 z49 z50 z51 z52 z53) (f112.H2_e4 z44 z45 z46 z47 z48 z49 z50 z51 z52 z53)
def f112.R2 {R:Type} (rec:KT R):=fun s23 s24 s25 s26 s27 s28 s29 s30 s31 s32=>rec (f112.T2 s23 s24 s25 s26 s27 s28 s29 s30 s31 s32) (f112.H2 s23 s24 s25 s26 s27 s28 s29 s30 s31 s32)
theorem f112.s2_eq {R:Type} (L N:Nat) (κ:KX R) (rec:KT R) (s23:LT) (s24:Int) (s25:Int) (s26:ByteArray) (s27:Int) (s28:LT) (s29:LY) (s30:LS) (s31:LM) (s32:LLM):
  evRd (E112 L N) (evCallI (E112 L N) 1 2000) 1000 112 106 4 f112.c2 κ rec (f112.T2 s23 s24 s25 s26 s27 s28 s29 s30 s31 s32) (f112.H2 s23 s24 s25 s26 s27 s28 s29 s30 s31 s32)
  =f112.s2 L N (f112.X2_e4 κ) (f112.R2 rec) s23 s24 s25 s26 s27 s28 s29 s30 s31 s32:=by kernel_rfl
theorem f112.l2_eq {R:Type} (L N:Nat) (κ:KX R):∀(n:Nat) (s23:LT) (s24:Int) (s25:Int) (s26:ByteArray) (s27:Int) (s28:LT) (s29:LY) (s30:LS) (s31:LM) (s32:LLM),
  evLp (E112 L N) (evCallI (E112 L N) 1 2000) 1000 112 106 4 f112.c2 κ n (f112.T2 s23 s24 s25 s26 s27 s28 s29 s30 s31 s32) (f112.H2 s23 s24 s25 s26 s27 s28 s29 s30 s31 s32)
  =f112.l2 L N (f112.X2_e4 κ) n s23 s24 s25 s26 s27 s28 s29 s30 s31 s32:=by
 intro n
 induction n with
 |zero=>intros;rfl
 |succ n ih=>
  intro s23 s24 s25 s26 s27 s28 s29 s30 s31 s32
  rw [evLp_succ,f112.s2_eq]
  delta f112.R2
  simp only [ih]
  rfl
def f112.X1_e2 {R:Type} (κ:KX R):=fun z16 z17 z18 z19 z20 z21=>κ (.exit 2) (f112.T1_e2 z16 z17 z18 z19 z20 z21) (f112.H1_e2 z16 z17 z18 z19 z20 z21)
def f112.X1_r {R:Type} (κ:KX R):=fun z76 z77 z78 z79 z80 z81 z82=>κ .ret (f112.T1_r z76 z77 z78 z79 z80 z81 z82) (f112.H1_r z76 z77 z78 z79 z80 z81 z82)
def f112.R1 {R:Type} (rec:KT R):=fun s8 s9 s10 s11 s12 s13 s14 s15=>rec (f112.T1 s8 s9 s10 s11 s12 s13 s14 s15) (f112.H1 s8 s9 s10 s11 s12 s13 s14 s15)
theorem f112.p2_e4_eq {R:Type} (L N:Nat) (κ:KX R) (rec:KT R) (z44:LT) (z45:Int) (z46:Int) (z47:ByteArray) (z48:Int) (z49:LT) (z50:LY) (z51:LS) (z52:LM) (z53:LLM):
  (contAt (E112 L N) (evCallI (E112 L N) 1 2000) 1000 112 106 4 f112.c1 (rdK (E112 L N) 1000 112 106 2 κ rec)) (.exit 4) (f112.T2_e4 z44 z45 z46 z47 z48 z49 z50 z51 z52 z53) (f112.H2_e4 z44 z45 z46 z47 z48 z49 z50 z51 z52 z53)
  =f112.p2_e4 L N (f112.X1_e2 κ) (f112.X1_r κ) (f112.R1 rec) z44 z45 z46 z47 z48 z49 z50 z51 z52 z53:=by kernel_rfl
theorem f112.s1_eq {R:Type} (L N:Nat) (κ:KX R) (rec:KT R) (s8:LT) (s9:Int) (s10:Int) (s11:LT) (s12:LY) (s13:LS) (s14:LM) (s15:LLM):
  evRd (E112 L N) (evCallI (E112 L N) 1 2000) 1000 112 106 2 f112.c1 κ rec (f112.T1 s8 s9 s10 s11 s12 s13 s14 s15) (f112.H1 s8 s9 s10 s11 s12 s13 s14 s15)
  =f112.s1 L N (f112.X1_e2 κ) (f112.X1_r κ) (f112.R1 rec) s8 s9 s10 s11 s12 s13 s14 s15:=by
 refine Eq.trans (b:=f112.s1' L N (f112.X1_e2 κ) (f112.X1_r κ) (f112.R1 rec) (fun s23 s24 s25 s26 s27 s28 s29 s30 s31 s32=>evLp (E112 L N) (evCallI (E112 L N) 1 2000) 1000 112 106 4 f112.c2 (contAt (E112 L N) (evCallI (E112 L N) 1 2000) 1000 112 106 4 f112.c1 (rdK (E112 L N) 1000 112 106 2 κ rec)) L (f112.T2 s23 s24 s25 s26 s27 s28 s29 s30 s31 s32) (f112.H2 s23 s24 s25 s26 s27 s28 s29 s30 s31 s32)) s8 s9 s10 s11 s12 s13 s14 s15) (by kernel_rfl) ?_
 unfold f112.s1
 simp only [f112.l2_eq]
 delta f112.X2_e4
 simp only [f112.p2_e4_eq]
theorem f112.l1_eq {R:Type} (L N:Nat) (κ:KX R):∀(n:Nat) (s8:LT) (s9:Int) (s10:Int) (s11:LT) (s12:LY) (s13:LS) (s14:LM) (s15:LLM),
  evLp (E112 L N) (evCallI (E112 L N) 1 2000) 1000 112 106 2 f112.c1 κ n (f112.T1 s8 s9 s10 s11 s12 s13 s14 s15) (f112.H1 s8 s9 s10 s11 s12 s13 s14 s15)
  =f112.l1 L N (f112.X1_e2 κ) (f112.X1_r κ) n s8 s9 s10 s11 s12 s13 s14 s15:=by
 intro n
 induction n with
 |zero=>intros;rfl
 |succ n ih=>
  intro s8 s9 s10 s11 s12 s13 s14 s15
  rw [evLp_succ,f112.s1_eq]
  delta f112.R1
  simp only [ih]
  rfl
def f112.X0_e0 {R:Type} (κ:KX R):=fun z6=>κ (.exit 0) (f112.T0_e0 z6) (f112.H0_e0 z6)
def f112.X0_r {R:Type} (κ:KX R):=fun z102 z103=>κ .ret (f112.T0_r z102 z103) (f112.H0_r z102 z103)
def f112.R0 {R:Type} (rec:KT R):=fun s1 s2 s3 s4 s5=>rec (f112.T0 s1 s2 s3 s4 s5) (f112.H0 s1 s2 s3 s4 s5)
theorem f112.p1_e2_eq {R:Type} (L N:Nat) (κ:KX R) (rec:KT R) (z16:LT) (z17:Int) (z18:LT) (z19:LY) (z20:LM) (z21:LLM):
  (contAt (E112 L N) (evCallI (E112 L N) 1 2000) 1000 112 106 2 f112.c0 (rdK (E112 L N) 1000 112 106 0 κ rec)) (.exit 2) (f112.T1_e2 z16 z17 z18 z19 z20 z21) (f112.H1_e2 z16 z17 z18 z19 z20 z21)
  =f112.p1_e2 L N (f112.X0_e0 κ) (f112.X0_r κ) (f112.R0 rec) z16 z17 z18 z19 z20 z21:=by kernel_rfl
theorem f112.p1_r_eq {R:Type} (L N:Nat) (κ:KX R) (rec:KT R) (z76:LT) (z77:Bool) (z78:Int) (z79:LT) (z80:LY) (z81:LM) (z82:LLM):
  (contAt (E112 L N) (evCallI (E112 L N) 1 2000) 1000 112 106 2 f112.c0 (rdK (E112 L N) 1000 112 106 0 κ rec)) .ret (f112.T1_r z76 z77 z78 z79 z80 z81 z82) (f112.H1_r z76 z77 z78 z79 z80 z81 z82)
  =f112.p1_r L N (f112.X0_e0 κ) (f112.X0_r κ) (f112.R0 rec) z76 z77 z78 z79 z80 z81 z82:=by kernel_rfl
theorem f112.s0_eq {R:Type} (L N:Nat) (κ:KX R) (rec:KT R) (s1:LT) (s2:Int) (s3:LT) (s4:LY) (s5:LLM):
  evRd (E112 L N) (evCallI (E112 L N) 1 2000) 1000 112 106 0 f112.c0 κ rec (f112.T0 s1 s2 s3 s4 s5) (f112.H0 s1 s2 s3 s4 s5)
  =f112.s0 L N (f112.X0_e0 κ) (f112.X0_r κ) (f112.R0 rec) s1 s2 s3 s4 s5:=by
 refine Eq.trans (b:=f112.s0' L N (f112.X0_e0 κ) (f112.X0_r κ) (f112.R0 rec) (fun s8 s9 s10 s11 s12 s13 s14 s15=>evLp (E112 L N) (evCallI (E112 L N) 1 2000) 1000 112 106 2 f112.c1 (contAt (E112 L N) (evCallI (E112 L N) 1 2000) 1000 112 106 2 f112.c0 (rdK (E112 L N) 1000 112 106 0 κ rec)) L (f112.T1 s8 s9 s10 s11 s12 s13 s14 s15) (f112.H1 s8 s9 s10 s11 s12 s13 s14 s15)) s1 s2 s3 s4 s5) (by kernel_rfl) ?_
 unfold f112.s0
 simp only [f112.l1_eq]
 delta f112.X1_e2 f112.X1_r
 simp only [f112.p1_e2_eq,f112.p1_r_eq]
theorem f112.l0_eq {R:Type} (L N:Nat) (κ:KX R):∀(n:Nat) (s1:LT) (s2:Int) (s3:LT) (s4:LY) (s5:LLM),
  evLp (E112 L N) (evCallI (E112 L N) 1 2000) 1000 112 106 0 f112.c0 κ n (f112.T0 s1 s2 s3 s4 s5) (f112.H0 s1 s2 s3 s4 s5)
  =f112.l0 L N (f112.X0_e0 κ) (f112.X0_r κ) n s1 s2 s3 s4 s5:=by
 intro n
 induction n with
 |zero=>intros;rfl
 |succ n ih=>
  intro s1 s2 s3 s4 s5
  rw [evLp_succ,f112.s0_eq]
  delta f112.R0
  simp only [ih]
  rfl
theorem f112.p0_e0_eq {R:Type} (L N:Nat) (κ:AV→Option R) (z6:LLM):
  (contAt (E112 L N) (evCallI (E112 L N) 1 2000) 1000 112 106 0 (codeOf Tryz.f112) (finK (E112 L N) 1000 Tryz.f112 (finC (.many [(.st 2),.bool]) κ))) (.exit 0) (f112.T0_e0 z6) (f112.H0_e0 z6)
  =f112.p0_e0 L N (fun a0 a1=>κ (.tup [(.tv (.st 2) a0),(.tv .bool a1)])) z6:=by kernel_rfl
theorem f112.p0_r_eq {R:Type} (L N:Nat) (κ:AV→Option R) (z102:Bool) (z103:LLM):
  (contAt (E112 L N) (evCallI (E112 L N) 1 2000) 1000 112 106 0 (codeOf Tryz.f112) (finK (E112 L N) 1000 Tryz.f112 (finC (.many [(.st 2),.bool]) κ))) .ret (f112.T0_r z102 z103) (f112.H0_r z102 z103)
  =f112.p0_r L N (fun a0 a1=>κ (.tup [(.tv (.st 2) a0),(.tv .bool a1)])) z102 z103:=by kernel_rfl
theorem f112.b_eq {R:Type} (L N:Nat) (κ:AV→Option R) (x0:Tree) (x1:LT):
  evBody (E112 L N) (evCallI (E112 L N) 1 2000) 1000 112 Tryz.f112 [(.tv (.st 1) x0),(.tv (.sl (.st 1)) x1)] [] [] (finC (.many [(.st 2),.bool]) κ)
  =f112.b L N (fun a0 a1=>κ (.tup [(.tv (.st 2) a0),(.tv .bool a1)])) x0 x1:=by
 refine Eq.trans (b:=f112.b' L N (fun a0 a1=>κ (.tup [(.tv (.st 2) a0),(.tv .bool a1)])) (fun s1 s2 s3 s4 s5=>evLp (E112 L N) (evCallI (E112 L N) 1 2000) 1000 112 106 0 f112.c0 (contAt (E112 L N) (evCallI (E112 L N) 1 2000) 1000 112 106 0 (codeOf Tryz.f112) (finK (E112 L N) 1000 Tryz.f112 (finC (.many [(.st 2),.bool]) κ))) L (f112.T0 s1 s2 s3 s4 s5) (f112.H0 s1 s2 s3 s4 s5)) x0 x1) (by kernel_rfl) ?_
 unfold f112.b
 simp only [f112.l0_eq]
 delta f112.X0_e0 f112.X0_r
 simp only [f112.p0_e0_eq,f112.p0_r_eq]
theorem f112.ok (L N:Nat) (hΦ:TellsOk Tryz.prog ((Φ142 L N))):EntOk Tryz.prog 112 (f112.ent L N):=entDa_ok (E:=(E112 L N)) (dep:=1000) (f:=Tryz.f112) (sound_of hΦ) okP (callI_sound (sound_of hΦ) okP 1 2000) rfl fun d _ hy=>(f112.b_eq L N (unR (.many [(.st 2),.bool])) d.1 d.2.1).trans (Eq.trans (b:=f112.b L N (fun a0 a1=>some (a0,a1)) d.1 d.2.1) (by kernel_rfl) hy)
def Φ112 (L N:Nat):Tells:=(addT (Φ142 L N) 112 (f112.ent L N))
theorem Φ112_ok (L N:Nat):TellsOk Tryz.prog (Φ112 L N):=addT_ok (Φ142_ok L N) (f112.ok L N (Φ142_ok L N))
def f87.b' {R:Type} (L N:Nat) (k:Graph→Bool→Option R) (x0:Tree) (x1:LT):Option R:=
 (f111 L N (Tree.mk x0.op x0.n x0.parts) x1).bind fun y0=>
 bif (!y0) then
  k (Graph.mk []) false
 else (f112 L N (Tree.mk x0.op x0.n x0.parts) x1).bind fun y1=>
 k (Graph.mk y1.1.moves) y1.2
def f87.b {R:Type} (L N:Nat) (k:Graph→Bool→Option R) (x0:Tree) (x1:LT):Option R:=
 f87.b' L N k x0 x1
def f87 (L N:Nat) (x0:Tree) (x1:LT):Option (Graph×Bool):=f87.b L N (fun a0 a1=>some (a0,a1)) x0 x1
def f87.ent (L N:Nat):=entDa [(.st 1),(.sl (.st 1))] (.many [(.st 2),.bool]) fun d=>f87 L N d.1 d.2.1
noncomputable def E87 (L N:Nat):Env:={P:=Tryz.prog,ty:=tyOf,Φ:=(Φ112 L N),inl:=inlT,live:=lives,liveX:=livesX,L:=L,dp:=none,prom:=promT,heal:=healT,ren:=renT}
theorem f87.b_eq {R:Type} (L N:Nat) (κ:AV→Option R) (x0:Tree) (x1:LT):
  evBody (E87 L N) (evCallI (E87 L N) 1 2000) 1000 87 Tryz.f87 [(.tv (.st 1) x0),(.tv (.sl (.st 1)) x1)] [] [] (finC (.many [(.st 2),.bool]) κ)
  =f87.b L N (fun a0 a1=>κ (.tup [(.tv (.st 2) a0),(.tv .bool a1)])) x0 x1:=by kernel_rfl
theorem f87.ok (L N:Nat) (hΦ:TellsOk Tryz.prog ((Φ112 L N))):EntOk Tryz.prog 87 (f87.ent L N):=entDa_ok (E:=(E87 L N)) (dep:=1000) (f:=Tryz.f87) (sound_of hΦ) okP (callI_sound (sound_of hΦ) okP 1 2000) rfl fun d _ hy=>(f87.b_eq L N (unR (.many [(.st 2),.bool])) d.1 d.2.1).trans (Eq.trans (b:=f87.b L N (fun a0 a1=>some (a0,a1)) d.1 d.2.1) (by kernel_rfl) hy)
def Φ87 (L N:Nat):Tells:=(addT (Φ112 L N) 87 (f87.ent L N))
theorem Φ87_ok (L N:Nat):TellsOk Tryz.prog (Φ87 L N):=addT_ok (Φ112_ok L N) (f87.ok L N (Φ112_ok L N))
def f88.j0' {R:Type} (L N:Nat) (k1_e2:Int→Bool→Int→LI→Int→LM→LLM→LLM→Option R) (rec1:Int→Bool→Int→Int→LI→Int→LM→LLM→LLM→Option R) (v34:Int) (v35:Bool) (v36:Int) (v37:Int) (v38:Int) (v39:LI) (v40:Int) (v41:LM) (v42:LLM) (v43:LLM):Option R:=
 (f85 L N v39 v40 v34).bind fun y44=>
 bif (decide (v41.length+([(Move.mk v38 y44.1)]:LM).length≤lim)) then
  rec1 v34 v35 v36 (wi (v37-(1:Int))) y44.2.1 y44.2.2 (v41++([(Move.mk v38 y44.1)]:LM)) v42 v43
 else none
def f88.s1' {R:Type} (L N:Nat) (k1_e2:Int→Bool→Int→LI→Int→LM→LLM→LLM→Option R) (rec1:Int→Bool→Int→Int→LI→Int→LM→LLM→LLM→Option R) (s15:Int) (s16:Bool) (s17:Int) (s18:Int) (s19:LI) (s20:Int) (s21:LM) (s22:LLM) (s23:LLM):Option R:=
 bif (decide (s18>(0:Int))) then
  (f85 L N s19 s20 (3:Int)).bind fun y32=>
  bif (!s16) then
   (f113 L N y32.2.1 y32.2.2).bind fun y33=>
   f88.j0' L N k1_e2 rec1 s15 s16 s17 s18 y33.1 y33.2.1 y33.2.2 s21 s22 s23
  else f88.j0' L N k1_e2 rec1 s15 s16 s17 s18 y32.1 y32.2.1 y32.2.2 s21 s22 s23
 else k1_e2 s15 s16 s17 s19 s20 s21 s22 s23
def f88.s1 {R:Type} (L N:Nat) (k1_e2:Int→Bool→Int→LI→Int→LM→LLM→LLM→Option R) (rec1:Int→Bool→Int→Int→LI→Int→LM→LLM→LLM→Option R) (s15:Int) (s16:Bool) (s17:Int) (s18:Int) (s19:LI) (s20:Int) (s21:LM) (s22:LLM) (s23:LLM):Option R:=
 f88.s1' L N k1_e2 rec1 s15 s16 s17 s18 s19 s20 s21 s22 s23
def f88.l1 {R:Type} (L N:Nat) (k1_e2:Int→Bool→Int→LI→Int→LM→LLM→LLM→Option R):Nat→Int→Bool→Int→Int→LI→Int→LM→LLM→LLM→Option R
 |0,_,_,_,_,_,_,_,_,_=>none
 |n+1,s15,s16,s17,s18,s19,s20,s21,s22,s23=>f88.s1 L N k1_e2 (f88.l1 L N k1_e2 n) s15 s16 s17 s18 s19 s20 s21 s22 s23
def f88.T1 (s15:Int) (s16:Bool) (s17:Int) (s18:Int) (s19:LI) (s20:Int) (s21:LM) (s22:LLM) (s23:LLM):T:=mkT 84 [(0,(.ptr 0 0)),(4,(.ptr 1004 0)),(5,(.ptr 1005 0)),(6,(.tv i64 s15)),(7,(.tv .bool s16)),(8,(.tv i64 s17)),(9,(.row 1025)),(10,(.tv i64 s18))]++[.ptr 0 0]
def f88.H1 (s15:Int) (s16:Bool) (s17:Int) (s18:Int) (s19:LI) (s20:Int) (s21:LM) (s22:LLM) (s23:LLM):H:=[(0,(.box [(.tv (.sl (.int .u8)) s19),(.tv i64 s20)])),(1004,(.box [(.row 1900)])),(1005,(.box [(.row 1901)])),(1025,(.row 48 (.st 0) s21)),(1900,(.deep 0 (.sl (.st 0)) s22 none)),(1901,(.deep 0 (.sl (.st 0)) s23 none))]
def f88.T1_e2 (z24:Int) (z25:Bool) (z26:Int) (z27:LI) (z28:Int) (z29:LM) (z30:LLM) (z31:LLM):T:=mkT 84 [(0,(.ptr 0 0)),(4,(.ptr 1004 0)),(5,(.ptr 1005 0)),(6,(.tv i64 z24)),(7,(.tv .bool z25)),(8,(.tv i64 z26)),(9,(.row 1025))]++[.ptr 0 0]
def f88.H1_e2 (z24:Int) (z25:Bool) (z26:Int) (z27:LI) (z28:Int) (z29:LM) (z30:LLM) (z31:LLM):H:=[(0,(.box [(.tv (.sl (.int .u8)) z27),(.tv i64 z28)])),(1004,(.box [(.row 1900)])),(1005,(.box [(.row 1901)])),(1025,(.row 48 (.st 0) z29)),(1900,(.deep 0 (.sl (.st 0)) z30 none)),(1901,(.deep 0 (.sl (.st 0)) z31 none))]
def f88.p1_e2' {R:Type} (L N:Nat) (k0_e0:Int→LI→Int→LLM→LLM→Option R) (rec0:Int→Bool→Int→LI→Int→LLM→LLM→Option R) (z24:Int) (z25:Bool) (z26:Int) (z27:LI) (z28:Int) (z29:LM) (z30:LLM) (z31:LLM):Option R:=
 (f28 L N z29).bind fun y45=>
 bif (decide (z31.length+([y45]:LLM).length≤lim)) then
  rec0 z24 z25 (wi (z26+(1:Int))) z27 z28 z30 (z31++([y45]:LLM))
 else none
def f88.p1_e2 {R:Type} (L N:Nat) (k0_e0:Int→LI→Int→LLM→LLM→Option R) (rec0:Int→Bool→Int→LI→Int→LLM→LLM→Option R) (z24:Int) (z25:Bool) (z26:Int) (z27:LI) (z28:Int) (z29:LM) (z30:LLM) (z31:LLM):Option R:=
 f88.p1_e2' L N k0_e0 rec0 z24 z25 z26 z27 z28 z29 z30 z31
def f88.s0' {R:Type} (L N:Nat) (k0_e0:Int→LI→Int→LLM→LLM→Option R) (rec0:Int→Bool→Int→LI→Int→LLM→LLM→Option R) (w1:Int→Bool→Int→Int→LI→Int→LM→LLM→LLM→Option R) (s2:Int) (s3:Bool) (s4:Int) (s5:LI) (s6:Int) (s7:LLM) (s8:LLM):Option R:=
 bif (decide (s4<s2)) then
  (f85 L N s5 s6 (4:Int)).bind fun y14=>
  w1 s2 s3 s4 y14.1 y14.2.1 y14.2.2 ([]:LM) s7 s8
 else k0_e0 s2 s5 s6 s7 s8
def f88.s0 {R:Type} (L N:Nat) (k0_e0:Int→LI→Int→LLM→LLM→Option R) (rec0:Int→Bool→Int→LI→Int→LLM→LLM→Option R) (s2:Int) (s3:Bool) (s4:Int) (s5:LI) (s6:Int) (s7:LLM) (s8:LLM):Option R:=
 f88.s0' L N k0_e0 rec0 (fun s15 s16 s17 s18 s19 s20 s21 s22 s23=>f88.l1 L N (fun z24 z25 z26 z27 z28 z29 z30 z31=>f88.p1_e2 L N k0_e0 rec0 z24 z25 z26 z27 z28 z29 z30 z31) L s15 s16 s17 s18 s19 s20 s21 s22 s23) s2 s3 s4 s5 s6 s7 s8
def f88.l0 {R:Type} (L N:Nat) (k0_e0:Int→LI→Int→LLM→LLM→Option R):Nat→Int→Bool→Int→LI→Int→LLM→LLM→Option R
 |0,_,_,_,_,_,_,_=>none
 |n+1,s2,s3,s4,s5,s6,s7,s8=>f88.s0 L N k0_e0 (f88.l0 L N k0_e0 n) s2 s3 s4 s5 s6 s7 s8
def f88.T0 (s2:Int) (s3:Bool) (s4:Int) (s5:LI) (s6:Int) (s7:LLM) (s8:LLM):T:=mkT 84 [(0,(.ptr 0 0)),(4,(.ptr 1004 0)),(5,(.ptr 1005 0)),(6,(.tv i64 s2)),(7,(.tv .bool s3)),(8,(.tv i64 s4))]++[.ptr 0 0]
def f88.H0 (s2:Int) (s3:Bool) (s4:Int) (s5:LI) (s6:Int) (s7:LLM) (s8:LLM):H:=[(0,(.box [(.tv (.sl (.int .u8)) s5),(.tv i64 s6)])),(1004,(.box [(.row 1900)])),(1005,(.box [(.row 1901)])),(1900,(.deep 0 (.sl (.st 0)) s7 none)),(1901,(.deep 0 (.sl (.st 0)) s8 none))]
def f88.T0_e0 (z9:Int) (z10:LI) (z11:Int) (z12:LLM) (z13:LLM):T:=mkT 84 [(0,(.ptr 0 0)),(4,(.ptr 1004 0)),(5,(.ptr 1005 0)),(6,(.tv i64 z9))]++[.ptr 0 0]
def f88.H0_e0 (z9:Int) (z10:LI) (z11:Int) (z12:LLM) (z13:LLM):H:=[(0,(.box [(.tv (.sl (.int .u8)) z10),(.tv i64 z11)])),(1004,(.box [(.row 1900)])),(1005,(.box [(.row 1901)])),(1900,(.deep 0 (.sl (.st 0)) z12 none)),(1901,(.deep 0 (.sl (.st 0)) z13 none))]
def f88.p0_e0' {R:Type} (L N:Nat) (k:Graph→LI→Int→Option R) (z9:Int) (z10:LI) (z11:Int) (z12:LLM) (z13:LLM):Option R:=
 (f85 L N z10 z11 (30:Int)).bind fun y46=>
 bif (y46.1==(0:Int)) then
  bif (decide (0≤(0:Int))&&decide ((0:Int)<(z13.length:Int))) then
   bif (decide ((listAt z13 [] (0:Int).toNat).length+([(Move.mk (9:Int) (0:Int))]:LM).length≤lim)) then
    bif (decide (0≤(0:Int))&&decide ((0:Int)<(z13.length:Int))) then
     k (Graph.mk (z13.set ((0:Int).toNat) ((listAt z13 [] (0:Int).toNat)++([(Move.mk (9:Int) (0:Int))]:LM)))) y46.2.1 y46.2.2
    else none
   else none
  else none
 else bif (y46.1==(1:Int)) then
  bif (decide (0≤(0:Int))&&decide ((0:Int)<(z13.length:Int))) then
   bif (decide ((listAt z13 [] (0:Int).toNat).length+([(Move.mk (0:Int) z9)]:LM).length≤lim)) then
    bif (decide (0≤(0:Int))&&decide ((0:Int)<(z13.length:Int))) then
     k (Graph.mk (z13.set ((0:Int).toNat) ((listAt z13 [] (0:Int).toNat)++([(Move.mk (0:Int) z9)]:LM)))) y46.2.1 y46.2.2
    else none
   else none
  else none
 else bif (y46.1==(2:Int)) then
  k (Graph.mk []) y46.2.1 y46.2.2
 else k (Graph.mk z13) y46.2.1 y46.2.2
def f88.p0_e0 {R:Type} (L N:Nat) (k:Graph→LI→Int→Option R) (z9:Int) (z10:LI) (z11:Int) (z12:LLM) (z13:LLM):Option R:=
 f88.p0_e0' L N k z9 z10 z11 z12 z13
def f88.b' {R:Type} (L N:Nat) (k:Graph→LI→Int→Option R) (w0:Int→Bool→Int→LI→Int→LLM→LLM→Option R) (c0:LI) (c1:Int) (x0:Int):Option R:=
 (f85 L N c0 c1 x0).bind fun y0=>
 (f85 L N y0.2.1 y0.2.2 (2:Int)).bind fun y1=>
 w0 (wi ((1:Int)+y0.1)) (y1.1==(0:Int)) (0:Int) y1.2.1 y1.2.2 ([]:LLM) ([]:LLM)
def f88.b {R:Type} (L N:Nat) (k:Graph→LI→Int→Option R) (c0:LI) (c1:Int) (x0:Int):Option R:=
 f88.b' L N k (fun s2 s3 s4 s5 s6 s7 s8=>f88.l0 L N (fun z9 z10 z11 z12 z13=>f88.p0_e0 L N k z9 z10 z11 z12 z13) L s2 s3 s4 s5 s6 s7 s8) c0 c1 x0
def f88 (L N:Nat) (c0:LI) (c1:Int) (x0:Int):Option (Graph×LI×Int):=f88.b L N (fun a0 a1 a2=>some (a0,a1,a2)) c0 c1 x0
def f88.ent (L N:Nat) (args:List AV) (vw:View) (site:Nat):Ans:=match boxD [(.sl (.int .u8)),i64] [i64] vw args with
 |some (o,d0,d,u)=>⟨Graph×LI×Int,f88 L N d0.1 d0.2.1 d.1,fun y=>((.tv (.st 2) y.1),u++[(o,some (.box [(.tv (.sl (.int .u8)) y.2.1),(.tv i64 y.2.2)]))],[])⟩
 |none=>Ans.no
noncomputable def E88 (L N:Nat):Env:={P:=Tryz.prog,ty:=tyOf,Φ:=(Φ87 L N),inl:=inlT,live:=lives,liveX:=livesX,L:=L,dp:=(some 0),prom:=promT,heal:=healT,ren:=renT,fresh:=fun s=>Nat.beq s 1065||Nat.beq s 1078}
noncomputable def f88.c0:Code:=loopAt 0 (codeOf Tryz.f88)
noncomputable def f88.c1:Code:=loopAt 2 f88.c0
def f88.X1_e2 {R:Type} (κ:KX R):=fun z24 z25 z26 z27 z28 z29 z30 z31=>κ (.exit 2) (f88.T1_e2 z24 z25 z26 z27 z28 z29 z30 z31) (f88.H1_e2 z24 z25 z26 z27 z28 z29 z30 z31)
def f88.R1 {R:Type} (rec:KT R):=fun s15 s16 s17 s18 s19 s20 s21 s22 s23=>rec (f88.T1 s15 s16 s17 s18 s19 s20 s21 s22 s23) (f88.H1 s15 s16 s17 s18 s19 s20 s21 s22 s23)
theorem f88.s1_eq {R:Type} (L N:Nat) (κ:KX R) (rec:KT R) (s15:Int) (s16:Bool) (s17:Int) (s18:Int) (s19:LI) (s20:Int) (s21:LM) (s22:LLM) (s23:LLM):
  evRd (E88 L N) (evCallI (E88 L N) 1 2000) 1000 88 84 2 f88.c1 κ rec (f88.T1 s15 s16 s17 s18 s19 s20 s21 s22 s23) (f88.H1 s15 s16 s17 s18 s19 s20 s21 s22 s23)
  =f88.s1 L N (f88.X1_e2 κ) (f88.R1 rec) s15 s16 s17 s18 s19 s20 s21 s22 s23:=by kernel_rfl
theorem f88.l1_eq {R:Type} (L N:Nat) (κ:KX R):∀(n:Nat) (s15:Int) (s16:Bool) (s17:Int) (s18:Int) (s19:LI) (s20:Int) (s21:LM) (s22:LLM) (s23:LLM),
  evLp (E88 L N) (evCallI (E88 L N) 1 2000) 1000 88 84 2 f88.c1 κ n (f88.T1 s15 s16 s17 s18 s19 s20 s21 s22 s23) (f88.H1 s15 s16 s17 s18 s19 s20 s21 s22 s23)
  =f88.l1 L N (f88.X1_e2 κ) n s15 s16 s17 s18 s19 s20 s21 s22 s23:=by
 intro n
 induction n with
 |zero=>intros;rfl
 |succ n ih=>
  intro s15 s16 s17 s18 s19 s20 s21 s22 s23
  rw [evLp_succ,f88.s1_eq]
  delta f88.R1
  simp only [ih]
  rfl
def f88.X0_e0 {R:Type} (κ:KX R):=fun z9 z10 z11 z12 z13=>κ (.exit 0) (f88.T0_e0 z9 z10 z11 z12 z13) (f88.H0_e0 z9 z10 z11 z12 z13)
def f88.R0 {R:Type} (rec:KT R):=fun s2 s3 s4 s5 s6 s7 s8=>rec (f88.T0 s2 s3 s4 s5 s6 s7 s8) (f88.H0 s2 s3 s4 s5 s6 s7 s8)
theorem f88.p1_e2_eq {R:Type} (L N:Nat) (κ:KX R) (rec:KT R) (z24:Int) (z25:Bool) (z26:Int) (z27:LI) (z28:Int) (z29:LM) (z30:LLM) (z31:LLM):
  (contAt (E88 L N) (evCallI (E88 L N) 1 2000) 1000 88 84 2 f88.c0 (rdK (E88 L N) 1000 88 84 0 κ rec)) (.exit 2) (f88.T1_e2 z24 z25 z26 z27 z28 z29 z30 z31) (f88.H1_e2 z24 z25 z26 z27 z28 z29 z30 z31)
  =f88.p1_e2 L N (f88.X0_e0 κ) (f88.R0 rec) z24 z25 z26 z27 z28 z29 z30 z31:=by kernel_rfl
theorem f88.s0_eq {R:Type} (L N:Nat) (κ:KX R) (rec:KT R) (s2:Int) (s3:Bool) (s4:Int) (s5:LI) (s6:Int) (s7:LLM) (s8:LLM):
  evRd (E88 L N) (evCallI (E88 L N) 1 2000) 1000 88 84 0 f88.c0 κ rec (f88.T0 s2 s3 s4 s5 s6 s7 s8) (f88.H0 s2 s3 s4 s5 s6 s7 s8)
  =f88.s0 L N (f88.X0_e0 κ) (f88.R0 rec) s2 s3 s4 s5 s6 s7 s8:=by
 refine Eq.trans (b:=f88.s0' L N (f88.X0_e0 κ) (f88.R0 rec) (fun s15 s16 s17 s18 s19 s20 s21 s22 s23=>evLp (E88 L N) (evCallI (E88 L N) 1 2000) 1000 88 84 2 f88.c1 (contAt (E88 L N) (evCallI (E88 L N) 1 2000) 1000 88 84 2 f88.c0 (rdK (E88 L N) 1000 88 84 0 κ rec)) L (f88.T1 s15 s16 s17 s18 s19 s20 s21 s22 s23) (f88.H1 s15 s16 s17 s18 s19 s20 s21 s22 s23)) s2 s3 s4 s5 s6 s7 s8) (by kernel_rfl) ?_
 unfold f88.s0
 simp only [f88.l1_eq]
 delta f88.X1_e2
 simp only [f88.p1_e2_eq]
theorem f88.l0_eq {R:Type} (L N:Nat) (κ:KX R):∀(n:Nat) (s2:Int) (s3:Bool) (s4:Int) (s5:LI) (s6:Int) (s7:LLM) (s8:LLM),
  evLp (E88 L N) (evCallI (E88 L N) 1 2000) 1000 88 84 0 f88.c0 κ n (f88.T0 s2 s3 s4 s5 s6 s7 s8) (f88.H0 s2 s3 s4 s5 s6 s7 s8)
  =f88.l0 L N (f88.X0_e0 κ) n s2 s3 s4 s5 s6 s7 s8:=by
 intro n
 induction n with
 |zero=>intros;rfl
 |succ n ih=>
  intro s2 s3 s4 s5 s6 s7 s8
  rw [evLp_succ,f88.s0_eq]
  delta f88.R0
  simp only [ih]
  rfl
theorem f88.p0_e0_eq {R:Type} (L N:Nat) (κ:AV→Dens [(.sl (.int .u8)),i64]→Option R) (z9:Int) (z10:LI) (z11:Int) (z12:LLM) (z13:LLM):
  (contAt (E88 L N) (evCallI (E88 L N) 1 2000) 1000 88 84 0 (codeOf Tryz.f88) (finK (E88 L N) 1000 Tryz.f88 (finM (.one (.st 2)) [(.sl (.int .u8)),i64] κ))) (.exit 0) (f88.T0_e0 z9 z10 z11 z12 z13) (f88.H0_e0 z9 z10 z11 z12 z13)
  =f88.p0_e0 L N (fun a0 a1 a2=>κ (.tv (.st 2) a0) (a1,a2,())) z9 z10 z11 z12 z13:=by kernel_rfl
theorem f88.b_eq {R:Type} (L N:Nat) (κ:AV→Dens [(.sl (.int .u8)),i64]→Option R) (c0:LI) (c1:Int) (x0:Int):
  evBody (E88 L N) (evCallI (E88 L N) 1 2000) 1000 88 Tryz.f88 [(.ptr 0 0),(.tv i64 x0)] [.ptr 0 0] [(0,(.box [(.tv (.sl (.int .u8)) c0),(.tv i64 c1)]))] (finM (.one (.st 2)) [(.sl (.int .u8)),i64] κ)
  =f88.b L N (fun a0 a1 a2=>κ (.tv (.st 2) a0) (a1,a2,())) c0 c1 x0:=by
 refine Eq.trans (b:=f88.b' L N (fun a0 a1 a2=>κ (.tv (.st 2) a0) (a1,a2,())) (fun s2 s3 s4 s5 s6 s7 s8=>evLp (E88 L N) (evCallI (E88 L N) 1 2000) 1000 88 84 0 f88.c0 (contAt (E88 L N) (evCallI (E88 L N) 1 2000) 1000 88 84 0 (codeOf Tryz.f88) (finK (E88 L N) 1000 Tryz.f88 (finM (.one (.st 2)) [(.sl (.int .u8)),i64] κ))) L (f88.T0 s2 s3 s4 s5 s6 s7 s8) (f88.H0 s2 s3 s4 s5 s6 s7 s8)) c0 c1 x0) (by kernel_rfl) ?_
 unfold f88.b
 simp only [f88.l0_eq]
 delta f88.X0_e0
 simp only [f88.p0_e0_eq]
theorem f88.ok (L N:Nat) (hΦ:TellsOk Tryz.prog ((Φ87 L N))):EntOk Tryz.prog 88 (f88.ent L N):=by
 intro args vw site h
 unfold f88.ent
 split
 ·rename_i o d0 d u ha
  intro y hy hs
  obtain ⟨rest,cs,rfl,ho,hd0,hr,hu⟩:=boxD_some ha
  refine call_box (y:=y) (dep:=1000) (v':=(.tv (.st 2) y.1)) (d1:=(y.2.1,y.2.2,())) (E:=(E88 L N)) (ts:=[(.sl (.int .u8)),i64]) (tr:=[i64]) (rs:=(.one (.st 2))) (κ:=(fun v d=>(unR (.one (.st 2)) v).bind fun x=>some (x,d.1,d.2.1))) (sound_of hΦ) okP (callI_sound (sound_of hΦ) okP 1 2000) (f:=Tryz.f88) rfl hs ho hd0 hr hu ?_ (fun _ _ h=>by obtain ⟨x,h1,h2⟩:=unR_bind h;obtain rfl:=Option.some.inj h2;exact ⟨h1,rfl⟩) site
  exact (f88.b_eq L N (fun v d=>(unR (.one (.st 2)) v).bind fun x=>some (x,d.1,d.2.1)) d0.1 d0.2.1 d.1).trans (Eq.trans (b:=f88.b L N (fun a0 a1 a2=>some (a0,a1,a2)) d0.1 d0.2.1 d.1) (by kernel_rfl) hy)
 ·intro y hy
  cases hy
def Φ88 (L N:Nat):Tells:=(addT (Φ87 L N) 88 (f88.ent L N))
theorem Φ88_ok (L N:Nat):TellsOk Tryz.prog (Φ88 L N):=addT_ok (Φ87_ok L N) (f88.ok L N (Φ87_ok L N))
def f58.b' {R:Type} (L N:Nat) (k:Graph→LI→Int→Option R) (c0:LI) (c1:Int):Option R:=
 (f85 L N c0 c1 (2:Int)).bind fun y0=>
 bif (y0.1==(0:Int)) then
  (f86 L N y0.2.1 y0.2.2).bind fun y1=>
  (f87 L N (Tree.mk y1.1.op y1.1.n y1.1.parts) y1.2.1).bind fun y2=>
  bif y2.2 then
   k (Graph.mk ((Graph.mk y2.1.moves).moves)) y1.2.2.1 y1.2.2.2
  else (f88 L N y1.2.2.1 y1.2.2.2 (6:Int)).bind fun y6=>
  k (Graph.mk y6.1.moves) y6.2.1 y6.2.2
 else (f88 L N y0.2.1 y0.2.2 (6:Int)).bind fun y7=>
 k (Graph.mk y7.1.moves) y7.2.1 y7.2.2
def f58.b {R:Type} (L N:Nat) (k:Graph→LI→Int→Option R) (c0:LI) (c1:Int):Option R:=
 f58.b' L N k c0 c1
def f58 (L N:Nat) (c0:LI) (c1:Int):Option (Graph×LI×Int):=f58.b L N (fun a0 a1 a2=>some (a0,a1,a2)) c0 c1
def f58.ent (L N:Nat) (args:List AV) (vw:View) (site:Nat):Ans:=match boxD [(.sl (.int .u8)),i64] [] vw args with
 |some (o,d0,d,u)=>⟨Graph×LI×Int,f58 L N d0.1 d0.2.1,fun y=>((.tv (.st 2) y.1),u++[(o,some (.box [(.tv (.sl (.int .u8)) y.2.1),(.tv i64 y.2.2)]))],[])⟩
 |none=>Ans.no
noncomputable def E58 (L N:Nat):Env:={P:=Tryz.prog,ty:=tyOf,Φ:=(Φ88 L N),inl:=inlT,live:=lives,liveX:=livesX,L:=L,dp:=none,prom:=promT,heal:=healT,ren:=renT}
theorem f58.b_eq {R:Type} (L N:Nat) (κ:AV→Dens [(.sl (.int .u8)),i64]→Option R) (c0:LI) (c1:Int):
  evBody (E58 L N) (evCallI (E58 L N) 1 2000) 1000 58 Tryz.f58 [(.ptr 0 0)] [.ptr 0 0] [(0,(.box [(.tv (.sl (.int .u8)) c0),(.tv i64 c1)]))] (finM (.one (.st 2)) [(.sl (.int .u8)),i64] κ)
  =f58.b L N (fun a0 a1 a2=>κ (.tv (.st 2) a0) (a1,a2,())) c0 c1:=by kernel_rfl
theorem f58.ok (L N:Nat) (hΦ:TellsOk Tryz.prog ((Φ88 L N))):EntOk Tryz.prog 58 (f58.ent L N):=by
 intro args vw site h
 unfold f58.ent
 split
 ·rename_i o d0 d u ha
  intro y hy hs
  obtain ⟨rest,cs,rfl,ho,hd0,hr,hu⟩:=boxD_some ha
  refine call_box (y:=y) (dep:=1000) (v':=(.tv (.st 2) y.1)) (d1:=(y.2.1,y.2.2,())) (E:=(E58 L N)) (ts:=[(.sl (.int .u8)),i64]) (tr:=[]) (rs:=(.one (.st 2))) (κ:=(fun v d=>(unR (.one (.st 2)) v).bind fun x=>some (x,d.1,d.2.1))) (sound_of hΦ) okP (callI_sound (sound_of hΦ) okP 1 2000) (f:=Tryz.f58) rfl hs ho hd0 hr hu ?_ (fun _ _ h=>by obtain ⟨x,h1,h2⟩:=unR_bind h;obtain rfl:=Option.some.inj h2;exact ⟨h1,rfl⟩) site
  exact (f58.b_eq L N (fun v d=>(unR (.one (.st 2)) v).bind fun x=>some (x,d.1,d.2.1)) d0.1 d0.2.1).trans (Eq.trans (b:=f58.b L N (fun a0 a1 a2=>some (a0,a1,a2)) d0.1 d0.2.1) (by kernel_rfl) hy)
 ·intro y hy
  cases hy
def Φ58 (L N:Nat):Tells:=(addT (Φ88 L N) 58 (f58.ent L N))
theorem Φ58_ok (L N:Nat):TellsOk Tryz.prog (Φ58 L N):=addT_ok (Φ88_ok L N) (f58.ok L N (Φ88_ok L N))
def f25.b' {R:Type} (L N:Nat) (k:Graph→Option R) (x0:LI):Option R:=
 (f57 L N x0).bind fun y0=>
 (f58 L N y0.1 y0.2).bind fun y1=>
 k (Graph.mk ((Graph.mk y1.1.moves).moves))
def f25.b {R:Type} (L N:Nat) (k:Graph→Option R) (x0:LI):Option R:=
 f25.b' L N k x0
def f25 (L N:Nat) (x0:LI):Option (Graph):=f25.b L N some x0
def f25.ent (L N:Nat):=entDa [(.sl (.int .u8))] (.one (.st 2)) fun d=>f25 L N d.1
noncomputable def E25 (L N:Nat):Env:={P:=Tryz.prog,ty:=tyOf,Φ:=(Φ58 L N),inl:=inlT,live:=lives,liveX:=livesX,L:=L,dp:=none,prom:=promT,heal:=healT,ren:=renT}
theorem f25.b_eq {R:Type} (L N:Nat) (κ:AV→Option R) (x0:LI):
  evBody (E25 L N) (evCallI (E25 L N) 1 2000) 1000 25 Tryz.f25 [(.tv (.sl (.int .u8)) x0)] [] [] (finC (.one (.st 2)) κ)
  =f25.b L N (fun a0=>κ (.tv (.st 2) a0)) x0:=by kernel_rfl
theorem f25.ok (L N:Nat) (hΦ:TellsOk Tryz.prog ((Φ58 L N))):EntOk Tryz.prog 25 (f25.ent L N):=entDa_ok (E:=(E25 L N)) (dep:=1000) (f:=Tryz.f25) (sound_of hΦ) okP (callI_sound (sound_of hΦ) okP 1 2000) rfl fun d _ hy=>(f25.b_eq L N (unR (.one (.st 2))) d.1).trans (Eq.trans (b:=f25.b L N some d.1) (by kernel_rfl) hy)
def Φ25 (L N:Nat):Tells:=(addT (Φ58 L N) 25 (f25.ent L N))
theorem Φ25_ok (L N:Nat):TellsOk Tryz.prog (Φ25 L N):=addT_ok (Φ58_ok L N) (f25.ok L N (Φ58_ok L N))
def f114_1.b' {R:Type} (L N:Nat) (k:Bool→Option R) (x0:Move) (x1:LB):Option R:=
 bif (x0.act==(0:Int)) then
  bif (decide (0≤x0.to)&&decide (x0.to<(x1.length:Int))) then
   k (listAt x1 false x0.to.toNat)
  else none
 else k false
def f114_1.b {R:Type} (L N:Nat) (k:Bool→Option R) (x0:Move) (x1:LB):Option R:=
 f114_1.b' L N k x0 x1
def f114_1 (L N:Nat) (x0:Move) (x1:LB):Option (Bool):=f114_1.b L N some x0 x1
def f114_1.ent (L N:Nat):=entRf [(.dat (.st 0)),(.imp (.sl .bool) 0)] (.one .bool) fun d=>f114_1 L N d.1 d.2.1
noncomputable def E114_1 (L N:Nat):Env:={P:=Tryz.prog,ty:=tyOf,Φ:=(Φ25 L N),inl:=inlT,live:=lives,liveX:=livesX,L:=L,dp:=none,prom:=promT,heal:=healT,ren:=renT}
theorem f114_1.b_eq {R:Type} (L N:Nat) (κ:AV→Option R) (x0:Move) (x1:LB):
  evBody (E114_1 L N) (evCallI (E114_1 L N) 1 2000) 1000 114 Tryz.f114 [(.tv (.st 0) x0),(.imp (.sl .bool) x1 0)] [] [] (finC (.one .bool) κ)
  =f114_1.b L N (fun a0=>κ (.tv .bool a0)) x0 x1:=by kernel_rfl
theorem f114_1.ok (L N:Nat) (hΦ:TellsOk Tryz.prog ((Φ25 L N))):EntOkO Tryz.prog 114 (f114_1.ent L N):=entRf_ok (E:=(E114_1 L N)) (dep:=1000) (f:=Tryz.f114) (sound_of hΦ) okP (callI_sound (sound_of hΦ) okP 1 2000) rfl rfl fun d _ hy=>(f114_1.b_eq L N (unR (.one .bool)) d.1 d.2.1).trans (Eq.trans (b:=f114_1.b L N some d.1 d.2.1) (by kernel_rfl) hy)
def Φ114_1 (L N:Nat):Tells:=(addO (Φ25 L N) 114 (f114_1.ent L N))
theorem Φ114_1_ok (L N:Nat):TellsOk Tryz.prog (Φ114_1 L N):=addO_ok (Φ25_ok L N) (f114_1.ok L N (Φ25_ok L N))
def f97_1.s0' {R:Type} (L N:Nat) (k0_e0:Option R) (k0_r:Int→Option R) (rec0:LM→LB→Int→Int→Option R) (s0:LM) (s1:LB) (s2:Int) (s3:Int):Option R:=
 bif (decide (s3<s2)) then
  bif (decide (0≤s3)&&decide (s3<(s0.length:Int))) then
   (f114_1 L N (listAt s0 (Ty.dflt (.st 0)) s3.toNat) s1).bind fun y4=>
   bif y4 then
    k0_r s3
   else rec0 s0 s1 s2 (wi (s3+(1:Int)))
  else none
 else k0_e0
def f97_1.s0 {R:Type} (L N:Nat) (k0_e0:Option R) (k0_r:Int→Option R) (rec0:LM→LB→Int→Int→Option R) (s0:LM) (s1:LB) (s2:Int) (s3:Int):Option R:=
 f97_1.s0' L N k0_e0 k0_r rec0 s0 s1 s2 s3
def f97_1.l0 {R:Type} (L N:Nat) (k0_e0:Option R) (k0_r:Int→Option R):Nat→LM→LB→Int→Int→Option R
 |0,_,_,_,_=>none
 |n+1,s0,s1,s2,s3=>f97_1.s0 L N k0_e0 k0_r (f97_1.l0 L N k0_e0 k0_r n) s0 s1 s2 s3
def f97_1.T0 (s0:LM) (s1:LB) (s2:Int) (s3:Int):T:=mkT 19 [(0,(.tv (.sl (.st 0)) s0)),(1,(.fn 114 [(.imp (.sl .bool) s1 0)])),(7,(.tv i64 s2)),(8,(.tv i64 s3))]
def f97_1.H0 (s0:LM) (s1:LB) (s2:Int) (s3:Int):H:=[]
def f97_1.T0_e0:T:=mkT 19 []
def f97_1.H0_e0:H:=[]
def f97_1.T0_r (z5:Int):T:=mkT 19 [(4,(.tv i64 z5))]
def f97_1.H0_r (z5:Int):H:=[]
def f97_1.p0_e0' {R:Type} (L N:Nat) (k:Int→Option R):Option R:=
 k (-1:Int)
def f97_1.p0_e0 {R:Type} (L N:Nat) (k:Int→Option R):Option R:=
 f97_1.p0_e0' L N k
def f97_1.p0_r' {R:Type} (L N:Nat) (k:Int→Option R) (z5:Int):Option R:=
 k z5
def f97_1.p0_r {R:Type} (L N:Nat) (k:Int→Option R) (z5:Int):Option R:=
 f97_1.p0_r' L N k z5
def f97_1.b' {R:Type} (L N:Nat) (k:Int→Option R) (w0:LM→LB→Int→Int→Option R) (x0:LM) (x1:LB):Option R:=
 w0 x0 x1 (x0.length:Int) (0:Int)
def f97_1.b {R:Type} (L N:Nat) (k:Int→Option R) (x0:LM) (x1:LB):Option R:=
 f97_1.b' L N k (fun s0 s1 s2 s3=>f97_1.l0 L N (f97_1.p0_e0 L N k) (fun z5=>f97_1.p0_r L N k z5) L s0 s1 s2 s3) x0 x1
def f97_1 (L N:Nat) (x0:LM) (x1:LB):Option (Int):=f97_1.b L N some x0 x1
def f97_1.ent (L N:Nat):=entRf [(.dat (.sl (.st 0))),(.fn 114 [(.imp (.sl .bool) 0)])] (.one i64) fun d=>f97_1 L N d.1 d.2.1.1
noncomputable def E97_1 (L N:Nat):Env:={P:=Tryz.prog,ty:=tyOf,Φ:=(Φ114_1 L N),inl:=inlT,live:=lives,liveX:=livesX,L:=L,dp:=none,prom:=promT,heal:=healT,ren:=renT}
noncomputable def f97_1.c0:Code:=loopAt 0 (codeOf Tryz.f97)
def f97_1.X0_e0 {R:Type} (κ:KX R):=κ (.exit 0) f97_1.T0_e0 f97_1.H0_e0
def f97_1.X0_r {R:Type} (κ:KX R):=fun z5=>κ .ret (f97_1.T0_r z5) (f97_1.H0_r z5)
def f97_1.R0 {R:Type} (rec:KT R):=fun s0 s1 s2 s3=>rec (f97_1.T0 s0 s1 s2 s3) (f97_1.H0 s0 s1 s2 s3)
theorem f97_1.s0_eq {R:Type} (L N:Nat) (κ:KX R) (rec:KT R) (s0:LM) (s1:LB) (s2:Int) (s3:Int):
  evRd (E97_1 L N) (evCallI (E97_1 L N) 1 2000) 1000 97 19 0 f97_1.c0 κ rec (f97_1.T0 s0 s1 s2 s3) (f97_1.H0 s0 s1 s2 s3)
  =f97_1.s0 L N (f97_1.X0_e0 κ) (f97_1.X0_r κ) (f97_1.R0 rec) s0 s1 s2 s3:=by kernel_rfl
theorem f97_1.l0_eq {R:Type} (L N:Nat) (κ:KX R):∀(n:Nat) (s0:LM) (s1:LB) (s2:Int) (s3:Int),
  evLp (E97_1 L N) (evCallI (E97_1 L N) 1 2000) 1000 97 19 0 f97_1.c0 κ n (f97_1.T0 s0 s1 s2 s3) (f97_1.H0 s0 s1 s2 s3)
  =f97_1.l0 L N (f97_1.X0_e0 κ) (f97_1.X0_r κ) n s0 s1 s2 s3:=by
 intro n
 induction n with
 |zero=>intros;rfl
 |succ n ih=>
  intro s0 s1 s2 s3
  rw [evLp_succ,f97_1.s0_eq]
  delta f97_1.R0
  simp only [ih]
  rfl
theorem f97_1.p0_e0_eq {R:Type} (L N:Nat) (κ:AV→Option R):
  (contAt (E97_1 L N) (evCallI (E97_1 L N) 1 2000) 1000 97 19 0 (codeOf Tryz.f97) (finK (E97_1 L N) 1000 Tryz.f97 (finC (.one i64) κ))) (.exit 0) f97_1.T0_e0 f97_1.H0_e0
  =f97_1.p0_e0 L N (fun a0=>κ (.tv i64 a0)):=by kernel_rfl
theorem f97_1.p0_r_eq {R:Type} (L N:Nat) (κ:AV→Option R) (z5:Int):
  (contAt (E97_1 L N) (evCallI (E97_1 L N) 1 2000) 1000 97 19 0 (codeOf Tryz.f97) (finK (E97_1 L N) 1000 Tryz.f97 (finC (.one i64) κ))) .ret (f97_1.T0_r z5) (f97_1.H0_r z5)
  =f97_1.p0_r L N (fun a0=>κ (.tv i64 a0)) z5:=by kernel_rfl
theorem f97_1.b_eq {R:Type} (L N:Nat) (κ:AV→Option R) (x0:LM) (x1:LB):
  evBody (E97_1 L N) (evCallI (E97_1 L N) 1 2000) 1000 97 Tryz.f97 [(.tv (.sl (.st 0)) x0),(.fn 114 [(.imp (.sl .bool) x1 0)])] [] [] (finC (.one i64) κ)
  =f97_1.b L N (fun a0=>κ (.tv i64 a0)) x0 x1:=by
 refine Eq.trans (b:=f97_1.b' L N (fun a0=>κ (.tv i64 a0)) (fun s0 s1 s2 s3=>evLp (E97_1 L N) (evCallI (E97_1 L N) 1 2000) 1000 97 19 0 f97_1.c0 (contAt (E97_1 L N) (evCallI (E97_1 L N) 1 2000) 1000 97 19 0 (codeOf Tryz.f97) (finK (E97_1 L N) 1000 Tryz.f97 (finC (.one i64) κ))) L (f97_1.T0 s0 s1 s2 s3) (f97_1.H0 s0 s1 s2 s3)) x0 x1) (by kernel_rfl) ?_
 unfold f97_1.b
 simp only [f97_1.l0_eq]
 delta f97_1.X0_e0 f97_1.X0_r
 simp only [f97_1.p0_e0_eq,f97_1.p0_r_eq]
theorem f97_1.ok (L N:Nat) (hΦ:TellsOk Tryz.prog ((Φ114_1 L N))):EntOkO Tryz.prog 97 (f97_1.ent L N):=entRf_ok (E:=(E97_1 L N)) (dep:=1000) (f:=Tryz.f97) (sound_of hΦ) okP (callI_sound (sound_of hΦ) okP 1 2000) rfl rfl fun d _ hy=>(f97_1.b_eq L N (unR (.one i64)) d.1 d.2.1.1).trans (Eq.trans (b:=f97_1.b L N some d.1 d.2.1.1) (by kernel_rfl) hy)
def Φ97_1 (L N:Nat):Tells:=(addO (Φ114_1 L N) 97 (f97_1.ent L N))
theorem Φ97_1_ok (L N:Nat):TellsOk Tryz.prog (Φ97_1 L N):=addO_ok (Φ114_1_ok L N) (f97_1.ok L N (Φ114_1_ok L N))
def f66_1.b' {R:Type} (L N:Nat) (k:Bool→Option R) (x0:LM) (x1:LB):Option R:=
 (f97_1 L N x0 x1).bind fun y0=>
 k (decide (y0≥(0:Int)))
def f66_1.b {R:Type} (L N:Nat) (k:Bool→Option R) (x0:LM) (x1:LB):Option R:=
 f66_1.b' L N k x0 x1
def f66_1 (L N:Nat) (x0:LM) (x1:LB):Option (Bool):=f66_1.b L N some x0 x1
def f66_1.ent (L N:Nat):=entRf [(.dat (.sl (.st 0))),(.fn 114 [(.imp (.sl .bool) 0)])] (.one .bool) fun d=>f66_1 L N d.1 d.2.1.1
noncomputable def E66_1 (L N:Nat):Env:={P:=Tryz.prog,ty:=tyOf,Φ:=(Φ97_1 L N),inl:=inlT,live:=lives,liveX:=livesX,L:=L,dp:=none,prom:=promT,heal:=healT,ren:=renT}
theorem f66_1.b_eq {R:Type} (L N:Nat) (κ:AV→Option R) (x0:LM) (x1:LB):
  evBody (E66_1 L N) (evCallI (E66_1 L N) 1 2000) 1000 66 Tryz.f66 [(.tv (.sl (.st 0)) x0),(.fn 114 [(.imp (.sl .bool) x1 0)])] [] [] (finC (.one .bool) κ)
  =f66_1.b L N (fun a0=>κ (.tv .bool a0)) x0 x1:=by kernel_rfl
theorem f66_1.ok (L N:Nat) (hΦ:TellsOk Tryz.prog ((Φ97_1 L N))):EntOkO Tryz.prog 66 (f66_1.ent L N):=entRf_ok (E:=(E66_1 L N)) (dep:=1000) (f:=Tryz.f66) (sound_of hΦ) okP (callI_sound (sound_of hΦ) okP 1 2000) rfl rfl fun d _ hy=>(f66_1.b_eq L N (unR (.one .bool)) d.1 d.2.1.1).trans (Eq.trans (b:=f66_1.b L N some d.1 d.2.1.1) (by kernel_rfl) hy)
def Φ66_1 (L N:Nat):Tells:=(addO (Φ97_1 L N) 66 (f66_1.ent L N))
theorem Φ66_1_ok (L N:Nat):TellsOk Tryz.prog (Φ66_1 L N):=addO_ok (Φ97_1_ok L N) (f66_1.ok L N (Φ97_1_ok L N))
def f92.s0' {R:Type} (L N:Nat) (k0_e0:LLM→LB→Option R) (rec0:Int→Int→LLM→LB→Option R) (s0:Int) (s1:Int) (s2:LLM) (s3:LB):Option R:=
 bif (decide (s1<s0)) then
  bif (decide (0≤s1)&&decide (s1<(s3.length:Int))) then
   rec0 s0 (wi (s1+(1:Int))) s2 (s3.set s1.toNat true)
  else none
 else k0_e0 s2 s3
def f92.s0 {R:Type} (L N:Nat) (k0_e0:LLM→LB→Option R) (rec0:Int→Int→LLM→LB→Option R) (s0:Int) (s1:Int) (s2:LLM) (s3:LB):Option R:=
 f92.s0' L N k0_e0 rec0 s0 s1 s2 s3
def f92.l0 {R:Type} (L N:Nat) (k0_e0:LLM→LB→Option R):Nat→Int→Int→LLM→LB→Option R
 |0,_,_,_,_=>none
 |n+1,s0,s1,s2,s3=>f92.s0 L N k0_e0 (f92.l0 L N k0_e0 n) s0 s1 s2 s3
def f92.T0 (s0:Int) (s1:Int) (s2:LLM) (s3:LB):T:=mkT 45 [(1,(.ptr 1001 0)),(3,(.ptr 1003 0)),(12,(.tv i64 s0)),(13,(.tv i64 s1))]
def f92.H0 (s0:Int) (s1:Int) (s2:LLM) (s3:LB):H:=[(1001,(.box [(.tv (.sl (.sl (.st 0))) s2)])),(1003,(.box [(.row 1010)])),(1010,(.row 4 .bool s3))]
def f92.T0_e0 (z4:LLM) (z5:LB):T:=mkT 45 [(1,(.ptr 1001 0)),(3,(.ptr 1003 0))]
def f92.H0_e0 (z4:LLM) (z5:LB):H:=[(1001,(.box [(.tv (.sl (.sl (.st 0))) z4)])),(1003,(.box [(.row 1010)])),(1010,(.row 4 .bool z5))]
def f92.j0' {R:Type} (L N:Nat) (k2_e4:Bool→LLM→LB→Option R) (rec2:Bool→Int→Int→LLM→LB→Option R) (v19:Bool) (v20:Int) (v21:Int) (v22:Int) (v23:Bool) (v24:LLM) (v25:LB):Option R:=
 bif v23 then
  bif (decide (0≤v20)&&decide (v20<(v25.length:Int))) then
   rec2 true v21 (wi (v22+(1:Int))) v24 (v25.set v20.toNat false)
  else none
 else rec2 v19 v21 (wi (v22+(1:Int))) v24 v25
def f92.s2' {R:Type} (L N:Nat) (k2_e4:Bool→LLM→LB→Option R) (rec2:Bool→Int→Int→LLM→LB→Option R) (s10:Bool) (s11:Int) (s12:Int) (s13:LLM) (s14:LB):Option R:=
 bif (decide (s12<s11)) then
  bif (decide (0≤s12)&&decide (s12<(s14.length:Int))) then
   bif (listAt s14 false s12.toNat) then
    bif (decide (0≤s12)&&decide (s12<(s13.length:Int))) then
     (f66_1 L N (listAt s13 [] s12.toNat) s14).bind fun y18=>
     f92.j0' L N k2_e4 rec2 s10 s12 s11 s12 (!y18) s13 s14
    else none
   else f92.j0' L N k2_e4 rec2 s10 s12 s11 s12 false s13 s14
  else none
 else k2_e4 s10 s13 s14
def f92.s2 {R:Type} (L N:Nat) (k2_e4:Bool→LLM→LB→Option R) (rec2:Bool→Int→Int→LLM→LB→Option R) (s10:Bool) (s11:Int) (s12:Int) (s13:LLM) (s14:LB):Option R:=
 f92.s2' L N k2_e4 rec2 s10 s11 s12 s13 s14
def f92.l2 {R:Type} (L N:Nat) (k2_e4:Bool→LLM→LB→Option R):Nat→Bool→Int→Int→LLM→LB→Option R
 |0,_,_,_,_,_=>none
 |n+1,s10,s11,s12,s13,s14=>f92.s2 L N k2_e4 (f92.l2 L N k2_e4 n) s10 s11 s12 s13 s14
def f92.T2 (s10:Bool) (s11:Int) (s12:Int) (s13:LLM) (s14:LB):T:=mkT 45 [(1,(.ptr 1001 0)),(3,(.ptr 1003 0)),(5,(.tv .bool s10)),(22,(.tv i64 s11)),(23,(.tv i64 s12))]
def f92.H2 (s10:Bool) (s11:Int) (s12:Int) (s13:LLM) (s14:LB):H:=[(1001,(.box [(.tv (.sl (.sl (.st 0))) s13)])),(1003,(.box [(.row 1010)])),(1010,(.row 4 .bool s14))]
def f92.T2_e4 (z15:Bool) (z16:LLM) (z17:LB):T:=mkT 45 [(1,(.ptr 1001 0)),(3,(.ptr 1003 0)),(5,(.tv .bool z15))]
def f92.H2_e4 (z15:Bool) (z16:LLM) (z17:LB):H:=[(1001,(.box [(.tv (.sl (.sl (.st 0))) z16)])),(1003,(.box [(.row 1010)])),(1010,(.row 4 .bool z17))]
def f92.p2_e4' {R:Type} (L N:Nat) (k1_e2:LB→Option R) (rec1:Bool→LLM→LB→Option R) (z15:Bool) (z16:LLM) (z17:LB):Option R:=
 rec1 z15 z16 z17
def f92.p2_e4 {R:Type} (L N:Nat) (k1_e2:LB→Option R) (rec1:Bool→LLM→LB→Option R) (z15:Bool) (z16:LLM) (z17:LB):Option R:=
 f92.p2_e4' L N k1_e2 rec1 z15 z16 z17
def f92.s1' {R:Type} (L N:Nat) (k1_e2:LB→Option R) (rec1:Bool→LLM→LB→Option R) (w2:Bool→Int→Int→LLM→LB→Option R) (s6:Bool) (s7:LLM) (s8:LB):Option R:=
 bif s6 then
  w2 false (s8.length:Int) (0:Int) s7 s8
 else k1_e2 s8
def f92.s1 {R:Type} (L N:Nat) (k1_e2:LB→Option R) (rec1:Bool→LLM→LB→Option R) (s6:Bool) (s7:LLM) (s8:LB):Option R:=
 f92.s1' L N k1_e2 rec1 (fun s10 s11 s12 s13 s14=>f92.l2 L N (fun z15 z16 z17=>f92.p2_e4 L N k1_e2 rec1 z15 z16 z17) L s10 s11 s12 s13 s14) s6 s7 s8
def f92.l1 {R:Type} (L N:Nat) (k1_e2:LB→Option R):Nat→Bool→LLM→LB→Option R
 |0,_,_,_=>none
 |n+1,s6,s7,s8=>f92.s1 L N k1_e2 (f92.l1 L N k1_e2 n) s6 s7 s8
def f92.T1 (s6:Bool) (s7:LLM) (s8:LB):T:=mkT 45 [(1,(.ptr 1001 0)),(3,(.ptr 1003 0)),(5,(.tv .bool s6))]
def f92.H1 (s6:Bool) (s7:LLM) (s8:LB):H:=[(1001,(.box [(.tv (.sl (.sl (.st 0))) s7)])),(1003,(.box [(.row 1010)])),(1010,(.row 4 .bool s8))]
def f92.T1_e2 (z9:LB):T:=mkT 45 [(3,(.ptr 1003 0))]
def f92.H1_e2 (z9:LB):H:=[(1003,(.box [(.row 1010)])),(1010,(.row 4 .bool z9))]
def f92.p1_e2' {R:Type} (L N:Nat) (k:LB→Option R) (z9:LB):Option R:=
 k z9
def f92.p1_e2 {R:Type} (L N:Nat) (k:LB→Option R) (z9:LB):Option R:=
 f92.p1_e2' L N k z9
def f92.p0_e0' {R:Type} (L N:Nat) (k:LB→Option R) (w1:Bool→LLM→LB→Option R) (z4:LLM) (z5:LB):Option R:=
 w1 true z4 z5
def f92.p0_e0 {R:Type} (L N:Nat) (k:LB→Option R) (z4:LLM) (z5:LB):Option R:=
 f92.p0_e0' L N k (fun s6 s7 s8=>f92.l1 L N (fun z9=>f92.p1_e2 L N k z9) L s6 s7 s8) z4 z5
def f92.b' {R:Type} (L N:Nat) (k:LB→Option R) (w0:Int→Int→LLM→LB→Option R) (x0:Graph):Option R:=
 bif (decide (0≤(x0.moves.length:Int))&&decide ((x0.moves.length:Int)≤(lim:Int))) then
  w0 ((List.replicate (x0.moves.length:Int).toNat false).length:Int) (0:Int) x0.moves (List.replicate (x0.moves.length:Int).toNat false)
 else none
def f92.b {R:Type} (L N:Nat) (k:LB→Option R) (x0:Graph):Option R:=
 f92.b' L N k (fun s0 s1 s2 s3=>f92.l0 L N (fun z4 z5=>f92.p0_e0 L N k z4 z5) L s0 s1 s2 s3) x0
def f92 (L N:Nat) (x0:Graph):Option (LB):=f92.b L N some x0
def f92.ent (L N:Nat):=entDa [(.st 2)] (.one (.sl .bool)) fun d=>f92 L N d.1
noncomputable def E92 (L N:Nat):Env:={P:=Tryz.prog,ty:=tyOf,Φ:=(Φ66_1 L N),inl:=inlT,live:=lives,liveX:=livesX,L:=L,dp:=none,prom:=promT,heal:=healT,ren:=renT}
noncomputable def f92.c0:Code:=loopAt 0 (codeOf Tryz.f92)
def f92.X0_e0 {R:Type} (κ:KX R):=fun z4 z5=>κ (.exit 0) (f92.T0_e0 z4 z5) (f92.H0_e0 z4 z5)
def f92.R0 {R:Type} (rec:KT R):=fun s0 s1 s2 s3=>rec (f92.T0 s0 s1 s2 s3) (f92.H0 s0 s1 s2 s3)
theorem f92.s0_eq {R:Type} (L N:Nat) (κ:KX R) (rec:KT R) (s0:Int) (s1:Int) (s2:LLM) (s3:LB):
  evRd (E92 L N) (evCallI (E92 L N) 1 2000) 1000 92 45 0 f92.c0 κ rec (f92.T0 s0 s1 s2 s3) (f92.H0 s0 s1 s2 s3)
  =f92.s0 L N (f92.X0_e0 κ) (f92.R0 rec) s0 s1 s2 s3:=by kernel_rfl
theorem f92.l0_eq {R:Type} (L N:Nat) (κ:KX R):∀(n:Nat) (s0:Int) (s1:Int) (s2:LLM) (s3:LB),
  evLp (E92 L N) (evCallI (E92 L N) 1 2000) 1000 92 45 0 f92.c0 κ n (f92.T0 s0 s1 s2 s3) (f92.H0 s0 s1 s2 s3)
  =f92.l0 L N (f92.X0_e0 κ) n s0 s1 s2 s3:=by
 intro n
 induction n with
 |zero=>intros;rfl
 |succ n ih=>
  intro s0 s1 s2 s3
  rw [evLp_succ,f92.s0_eq]
  delta f92.R0
  simp only [ih]
  rfl
noncomputable def f92.c1:Code:=loopAt 2 (codeOf Tryz.f92)
noncomputable def f92.c2:Code:=loopAt 4 f92.c1
def f92.X2_e4 {R:Type} (κ:KX R):=fun z15 z16 z17=>κ (.exit 4) (f92.T2_e4 z15 z16 z17) (f92.H2_e4 z15 z16 z17)
def f92.R2 {R:Type} (rec:KT R):=fun s10 s11 s12 s13 s14=>rec (f92.T2 s10 s11 s12 s13 s14) (f92.H2 s10 s11 s12 s13 s14)
theorem f92.s2_eq {R:Type} (L N:Nat) (κ:KX R) (rec:KT R) (s10:Bool) (s11:Int) (s12:Int) (s13:LLM) (s14:LB):
  evRd (E92 L N) (evCallI (E92 L N) 1 2000) 1000 92 45 4 f92.c2 κ rec (f92.T2 s10 s11 s12 s13 s14) (f92.H2 s10 s11 s12 s13 s14)
  =f92.s2 L N (f92.X2_e4 κ) (f92.R2 rec) s10 s11 s12 s13 s14:=by kernel_rfl
theorem f92.l2_eq {R:Type} (L N:Nat) (κ:KX R):∀(n:Nat) (s10:Bool) (s11:Int) (s12:Int) (s13:LLM) (s14:LB),
  evLp (E92 L N) (evCallI (E92 L N) 1 2000) 1000 92 45 4 f92.c2 κ n (f92.T2 s10 s11 s12 s13 s14) (f92.H2 s10 s11 s12 s13 s14)
  =f92.l2 L N (f92.X2_e4 κ) n s10 s11 s12 s13 s14:=by
 intro n
 induction n with
 |zero=>intros;rfl
 |succ n ih=>
  intro s10 s11 s12 s13 s14
  rw [evLp_succ,f92.s2_eq]
  delta f92.R2
  simp only [ih]
  rfl
def f92.X1_e2 {R:Type} (κ:KX R):=fun z9=>κ (.exit 2) (f92.T1_e2 z9) (f92.H1_e2 z9)
def f92.R1 {R:Type} (rec:KT R):=fun s6 s7 s8=>rec (f92.T1 s6 s7 s8) (f92.H1 s6 s7 s8)
theorem f92.p2_e4_eq {R:Type} (L N:Nat) (κ:KX R) (rec:KT R) (z15:Bool) (z16:LLM) (z17:LB):
  (contAt (E92 L N) (evCallI (E92 L N) 1 2000) 1000 92 45 4 f92.c1 (rdK (E92 L N) 1000 92 45 2 κ rec)) (.exit 4) (f92.T2_e4 z15 z16 z17) (f92.H2_e4 z15 z16 z17)
  =f92.p2_e4 L N (f92.X1_e2 κ) (f92.R1 rec) z15 z16 z17:=by kernel_rfl
theorem f92.s1_eq {R:Type} (L N:Nat) (κ:KX R) (rec:KT R) (s6:Bool) (s7:LLM) (s8:LB):
  evRd (E92 L N) (evCallI (E92 L N) 1 2000) 1000 92 45 2 f92.c1 κ rec (f92.T1 s6 s7 s8) (f92.H1 s6 s7 s8)
  =f92.s1 L N (f92.X1_e2 κ) (f92.R1 rec) s6 s7 s8:=by
 refine Eq.trans (b:=f92.s1' L N (f92.X1_e2 κ) (f92.R1 rec) (fun s10 s11 s12 s13 s14=>evLp (E92 L N) (evCallI (E92 L N) 1 2000) 1000 92 45 4 f92.c2 (contAt (E92 L N) (evCallI (E92 L N) 1 2000) 1000 92 45 4 f92.c1 (rdK (E92 L N) 1000 92 45 2 κ rec)) L (f92.T2 s10 s11 s12 s13 s14) (f92.H2 s10 s11 s12 s13 s14)) s6 s7 s8) (by kernel_rfl) ?_
 unfold f92.s1
 simp only [f92.l2_eq]
 delta f92.X2_e4
 simp only [f92.p2_e4_eq]
theorem f92.l1_eq {R:Type} (L N:Nat) (κ:KX R):∀(n:Nat) (s6:Bool) (s7:LLM) (s8:LB),
  evLp (E92 L N) (evCallI (E92 L N) 1 2000) 1000 92 45 2 f92.c1 κ n (f92.T1 s6 s7 s8) (f92.H1 s6 s7 s8)
  =f92.l1 L N (f92.X1_e2 κ) n s6 s7 s8:=by
 intro n
 induction n with
 |zero=>intros;rfl
 |succ n ih=>
  intro s6 s7 s8
  rw [evLp_succ,f92.s1_eq]
  delta f92.R1
  simp only [ih]
  rfl
theorem f92.p1_e2_eq {R:Type} (L N:Nat) (κ:AV→Option R) (z9:LB):
  (contAt (E92 L N) (evCallI (E92 L N) 1 2000) 1000 92 45 2 (codeOf Tryz.f92) (finK (E92 L N) 1000 Tryz.f92 (finC (.one (.sl .bool)) κ))) (.exit 2) (f92.T1_e2 z9) (f92.H1_e2 z9)
  =f92.p1_e2 L N (fun a0=>κ (.tv (.sl .bool) a0)) z9:=by kernel_rfl
theorem f92.p0_e0_eq {R:Type} (L N:Nat) (κ:AV→Option R) (z4:LLM) (z5:LB):
  (contAt (E92 L N) (evCallI (E92 L N) 1 2000) 1000 92 45 0 (codeOf Tryz.f92) (finK (E92 L N) 1000 Tryz.f92 (finC (.one (.sl .bool)) κ))) (.exit 0) (f92.T0_e0 z4 z5) (f92.H0_e0 z4 z5)
  =f92.p0_e0 L N (fun a0=>κ (.tv (.sl .bool) a0)) z4 z5:=by
 refine Eq.trans (b:=f92.p0_e0' L N (fun a0=>κ (.tv (.sl .bool) a0)) (fun s6 s7 s8=>evLp (E92 L N) (evCallI (E92 L N) 1 2000) 1000 92 45 2 f92.c1 (contAt (E92 L N) (evCallI (E92 L N) 1 2000) 1000 92 45 2 (codeOf Tryz.f92) (finK (E92 L N) 1000 Tryz.f92 (finC (.one (.sl .bool)) κ))) L (f92.T1 s6 s7 s8) (f92.H1 s6 s7 s8)) z4 z5) (by kernel_rfl) ?_
 unfold f92.p0_e0
 simp only [f92.l1_eq]
 delta f92.X1_e2
 simp only [f92.p1_e2_eq]
theorem f92.b_eq {R:Type} (L N:Nat) (κ:AV→Option R) (x0:Graph):
  evBody (E92 L N) (evCallI (E92 L N) 1 2000) 1000 92 Tryz.f92 [(.tv (.st 2) x0)] [] [] (finC (.one (.sl .bool)) κ)
  =f92.b L N (fun a0=>κ (.tv (.sl .bool) a0)) x0:=by
 refine Eq.trans (b:=f92.b' L N (fun a0=>κ (.tv (.sl .bool) a0)) (fun s0 s1 s2 s3=>evLp (E92 L N) (evCallI (E92 L N) 1 2000) 1000 92 45 0 f92.c0 (contAt (E92 L N) (evCallI (E92 L N) 1 2000) 1000 92 45 0 (codeOf Tryz.f92) (finK (E92 L N) 1000 Tryz.f92 (finC (.one (.sl .bool)) κ))) L (f92.T0 s0 s1 s2 s3) (f92.H0 s0 s1 s2 s3)) x0) (by kernel_rfl) ?_
 unfold f92.b
 simp only [f92.l0_eq]
 delta f92.X0_e0
 simp only [f92.p0_e0_eq]
theorem f92.ok (L N:Nat) (hΦ:TellsOk Tryz.prog ((Φ66_1 L N))):EntOk Tryz.prog 92 (f92.ent L N):=entDa_ok (E:=(E92 L N)) (dep:=1000) (f:=Tryz.f92) (sound_of hΦ) okP (callI_sound (sound_of hΦ) okP 1 2000) rfl fun d _ hy=>(f92.b_eq L N (unR (.one (.sl .bool))) d.1).trans (Eq.trans (b:=f92.b L N some d.1) (by kernel_rfl) hy)
def Φ92 (L N:Nat):Tells:=(addT (Φ66_1 L N) 92 (f92.ent L N))
theorem Φ92_ok (L N:Nat):TellsOk Tryz.prog (Φ92 L N):=addT_ok (Φ66_1_ok L N) (f92.ok L N (Φ66_1_ok L N))
def f94.s1' {R:Type} (L N:Nat) (k1_e2:Int→LLM→LI→(List (Int×Bool))→Option R) (rec1:Int→LM→Int→Int→LLM→LI→(List (Int×Bool))→Option R) (s5:Int) (s6:LM) (s7:Int) (s8:Int) (s9:LLM) (s10:LI) (s11:(List (Int×Bool))):Option R:=
 bif (decide (s8<s7)) then
  bif (decide (0≤s8)&&decide (s8<(s6.length:Int))) then
   bif (!((mapFind i64 .bool ((listAt s6 (Ty.dflt (.st 0)) s8.toNat).to) s11).getD (Ty.dflt .bool))) then
    bif (decide (s10.length+([(listAt s6 (Ty.dflt (.st 0)) s8.toNat).to]:LI).length≤lim)) then
     rec1 s5 s6 s7 (wi (s8+(1:Int))) s9 (s10++([(listAt s6 (Ty.dflt (.st 0)) s8.toNat).to]:LI)) (mapPut i64 .bool ((listAt s6 (Ty.dflt (.st 0)) s8.toNat).to) true s11)
    else none
   else rec1 s5 s6 s7 (wi (s8+(1:Int))) s9 s10 s11
  else none
 else k1_e2 s5 s9 s10 s11
def f94.s1 {R:Type} (L N:Nat) (k1_e2:Int→LLM→LI→(List (Int×Bool))→Option R) (rec1:Int→LM→Int→Int→LLM→LI→(List (Int×Bool))→Option R) (s5:Int) (s6:LM) (s7:Int) (s8:Int) (s9:LLM) (s10:LI) (s11:(List (Int×Bool))):Option R:=
 f94.s1' L N k1_e2 rec1 s5 s6 s7 s8 s9 s10 s11
def f94.l1 {R:Type} (L N:Nat) (k1_e2:Int→LLM→LI→(List (Int×Bool))→Option R):Nat→Int→LM→Int→Int→LLM→LI→(List (Int×Bool))→Option R
 |0,_,_,_,_,_,_,_=>none
 |n+1,s5,s6,s7,s8,s9,s10,s11=>f94.s1 L N k1_e2 (f94.l1 L N k1_e2 n) s5 s6 s7 s8 s9 s10 s11
def f94.T1 (s5:Int) (s6:LM) (s7:Int) (s8:Int) (s9:LLM) (s10:LI) (s11:(List (Int×Bool))):T:=mkT 49 [(2,(.ptr 1002 0)),(5,(.row 1011)),(6,(.mp 1012)),(7,(.tv i64 s5)),(28,(.tv (.sl (.st 0)) s6)),(29,(.tv i64 s7)),(30,(.tv i64 s8))]
def f94.H1 (s5:Int) (s6:LM) (s7:Int) (s8:Int) (s9:LLM) (s10:LI) (s11:(List (Int×Bool))):H:=[(1002,(.box [(.tv (.sl (.sl (.st 0))) s9)])),(1011,(.row 3 i64 s10)),(1012,(.map i64 .bool s11))]
def f94.T1_e2 (z12:Int) (z13:LLM) (z14:LI) (z15:(List (Int×Bool))):T:=mkT 49 [(2,(.ptr 1002 0)),(5,(.row 1011)),(6,(.mp 1012)),(7,(.tv i64 z12))]
def f94.H1_e2 (z12:Int) (z13:LLM) (z14:LI) (z15:(List (Int×Bool))):H:=[(1002,(.box [(.tv (.sl (.sl (.st 0))) z13)])),(1011,(.row 3 i64 z14)),(1012,(.map i64 .bool z15))]
def f94.p1_e2' {R:Type} (L N:Nat) (k0_e0:LI→Option R) (rec0:Int→LLM→LI→(List (Int×Bool))→Option R) (z12:Int) (z13:LLM) (z14:LI) (z15:(List (Int×Bool))):Option R:=
 rec0 (wi (z12+(1:Int))) z13 z14 z15
def f94.p1_e2 {R:Type} (L N:Nat) (k0_e0:LI→Option R) (rec0:Int→LLM→LI→(List (Int×Bool))→Option R) (z12:Int) (z13:LLM) (z14:LI) (z15:(List (Int×Bool))):Option R:=
 f94.p1_e2' L N k0_e0 rec0 z12 z13 z14 z15
def f94.s0' {R:Type} (L N:Nat) (k0_e0:LI→Option R) (rec0:Int→LLM→LI→(List (Int×Bool))→Option R) (w1:Int→LM→Int→Int→LLM→LI→(List (Int×Bool))→Option R) (s0:Int) (s1:LLM) (s2:LI) (s3:(List (Int×Bool))):Option R:=
 bif (decide (s0<(s2.length:Int))) then
  bif (decide (0≤s0)&&decide (s0<(s2.length:Int))) then
   bif (decide (0≤(listAt s2 (0:Int) s0.toNat))&&decide ((listAt s2 (0:Int) s0.toNat)<(s1.length:Int))) then
    w1 s0 (listAt s1 [] (listAt s2 (0:Int) s0.toNat).toNat) ((listAt s1 [] (listAt s2 (0:Int) s0.toNat).toNat).length:Int) (0:Int) s1 s2 s3
   else none
  else none
 else k0_e0 s2
def f94.s0 {R:Type} (L N:Nat) (k0_e0:LI→Option R) (rec0:Int→LLM→LI→(List (Int×Bool))→Option R) (s0:Int) (s1:LLM) (s2:LI) (s3:(List (Int×Bool))):Option R:=
 f94.s0' L N k0_e0 rec0 (fun s5 s6 s7 s8 s9 s10 s11=>f94.l1 L N (fun z12 z13 z14 z15=>f94.p1_e2 L N k0_e0 rec0 z12 z13 z14 z15) L s5 s6 s7 s8 s9 s10 s11) s0 s1 s2 s3
def f94.l0 {R:Type} (L N:Nat) (k0_e0:LI→Option R):Nat→Int→LLM→LI→(List (Int×Bool))→Option R
 |0,_,_,_,_=>none
 |n+1,s0,s1,s2,s3=>f94.s0 L N k0_e0 (f94.l0 L N k0_e0 n) s0 s1 s2 s3
def f94.T0 (s0:Int) (s1:LLM) (s2:LI) (s3:(List (Int×Bool))):T:=mkT 49 [(2,(.ptr 1002 0)),(5,(.row 1011)),(6,(.mp 1012)),(7,(.tv i64 s0))]
def f94.H0 (s0:Int) (s1:LLM) (s2:LI) (s3:(List (Int×Bool))):H:=[(1002,(.box [(.tv (.sl (.sl (.st 0))) s1)])),(1011,(.row 3 i64 s2)),(1012,(.map i64 .bool s3))]
def f94.T0_e0 (z4:LI):T:=mkT 49 [(5,(.row 1011))]
def f94.H0_e0 (z4:LI):H:=[(1011,(.row 3 i64 z4))]
def f94.p0_e0' {R:Type} (L N:Nat) (k:LI→Option R) (z4:LI):Option R:=
 k z4
def f94.p0_e0 {R:Type} (L N:Nat) (k:LI→Option R) (z4:LI):Option R:=
 f94.p0_e0' L N k z4
def f94.b' {R:Type} (L N:Nat) (k:LI→Option R) (w0:Int→LLM→LI→(List (Int×Bool))→Option R) (x0:Graph) (x1:Int):Option R:=
 w0 (0:Int) x0.moves ([x1]:LI) (mapPut i64 .bool x1 true ([]:(List (Int×Bool))))
def f94.b {R:Type} (L N:Nat) (k:LI→Option R) (x0:Graph) (x1:Int):Option R:=
 f94.b' L N k (fun s0 s1 s2 s3=>f94.l0 L N (fun z4=>f94.p0_e0 L N k z4) L s0 s1 s2 s3) x0 x1
def f94 (L N:Nat) (x0:Graph) (x1:Int):Option (LI):=f94.b L N some x0 x1
def f94.ent (L N:Nat):=entDa [(.st 2),i64] (.one (.sl i64)) fun d=>f94 L N d.1 d.2.1
noncomputable def E94 (L N:Nat):Env:={P:=Tryz.prog,ty:=tyOf,Φ:=(Φ92 L N),inl:=inlT,live:=lives,liveX:=livesX,L:=L,dp:=none,prom:=promT,heal:=healT,ren:=renT}
noncomputable def f94.c0:Code:=loopAt 0 (codeOf Tryz.f94)
noncomputable def f94.c1:Code:=loopAt 2 f94.c0
def f94.X1_e2 {R:Type} (κ:KX R):=fun z12 z13 z14 z15=>κ (.exit 2) (f94.T1_e2 z12 z13 z14 z15) (f94.H1_e2 z12 z13 z14 z15)
def f94.R1 {R:Type} (rec:KT R):=fun s5 s6 s7 s8 s9 s10 s11=>rec (f94.T1 s5 s6 s7 s8 s9 s10 s11) (f94.H1 s5 s6 s7 s8 s9 s10 s11)
theorem f94.s1_eq {R:Type} (L N:Nat) (κ:KX R) (rec:KT R) (s5:Int) (s6:LM) (s7:Int) (s8:Int) (s9:LLM) (s10:LI) (s11:(List (Int×Bool))):
  evRd (E94 L N) (evCallI (E94 L N) 1 2000) 1000 94 49 2 f94.c1 κ rec (f94.T1 s5 s6 s7 s8 s9 s10 s11) (f94.H1 s5 s6 s7 s8 s9 s10 s11)
  =f94.s1 L N (f94.X1_e2 κ) (f94.R1 rec) s5 s6 s7 s8 s9 s10 s11:=by kernel_rfl
theorem f94.l1_eq {R:Type} (L N:Nat) (κ:KX R):∀(n:Nat) (s5:Int) (s6:LM) (s7:Int) (s8:Int) (s9:LLM) (s10:LI) (s11:(List (Int×Bool))),
  evLp (E94 L N) (evCallI (E94 L N) 1 2000) 1000 94 49 2 f94.c1 κ n (f94.T1 s5 s6 s7 s8 s9 s10 s11) (f94.H1 s5 s6 s7 s8 s9 s10 s11)
  =f94.l1 L N (f94.X1_e2 κ) n s5 s6 s7 s8 s9 s10 s11:=by
 intro n
 induction n with
 |zero=>intros;rfl
 |succ n ih=>
  intro s5 s6 s7 s8 s9 s10 s11
  rw [evLp_succ,f94.s1_eq]
  delta f94.R1
  simp only [ih]
  rfl
def f94.X0_e0 {R:Type} (κ:KX R):=fun z4=>κ (.exit 0) (f94.T0_e0 z4) (f94.H0_e0 z4)
def f94.R0 {R:Type} (rec:KT R):=fun s0 s1 s2 s3=>rec (f94.T0 s0 s1 s2 s3) (f94.H0 s0 s1 s2 s3)
theorem f94.p1_e2_eq {R:Type} (L N:Nat) (κ:KX R) (rec:KT R) (z12:Int) (z13:LLM) (z14:LI) (z15:(List (Int×Bool))):
  (contAt (E94 L N) (evCallI (E94 L N) 1 2000) 1000 94 49 2 f94.c0 (rdK (E94 L N) 1000 94 49 0 κ rec)) (.exit 2) (f94.T1_e2 z12 z13 z14 z15) (f94.H1_e2 z12 z13 z14 z15)
  =f94.p1_e2 L N (f94.X0_e0 κ) (f94.R0 rec) z12 z13 z14 z15:=by kernel_rfl
theorem f94.s0_eq {R:Type} (L N:Nat) (κ:KX R) (rec:KT R) (s0:Int) (s1:LLM) (s2:LI) (s3:(List (Int×Bool))):
  evRd (E94 L N) (evCallI (E94 L N) 1 2000) 1000 94 49 0 f94.c0 κ rec (f94.T0 s0 s1 s2 s3) (f94.H0 s0 s1 s2 s3)
  =f94.s0 L N (f94.X0_e0 κ) (f94.R0 rec) s0 s1 s2 s3:=by
 refine Eq.trans (b:=f94.s0' L N (f94.X0_e0 κ) (f94.R0 rec) (fun s5 s6 s7 s8 s9 s10 s11=>evLp (E94 L N) (evCallI (E94 L N) 1 2000) 1000 94 49 2 f94.c1 (contAt (E94 L N) (evCallI (E94 L N) 1 2000) 1000 94 49 2 f94.c0 (rdK (E94 L N) 1000 94 49 0 κ rec)) L (f94.T1 s5 s6 s7 s8 s9 s10 s11) (f94.H1 s5 s6 s7 s8 s9 s10 s11)) s0 s1 s2 s3) (by kernel_rfl) ?_
 unfold f94.s0
 simp only [f94.l1_eq]
 delta f94.X1_e2
 simp only [f94.p1_e2_eq]
theorem f94.l0_eq {R:Type} (L N:Nat) (κ:KX R):∀(n:Nat) (s0:Int) (s1:LLM) (s2:LI) (s3:(List (Int×Bool))),
  evLp (E94 L N) (evCallI (E94 L N) 1 2000) 1000 94 49 0 f94.c0 κ n (f94.T0 s0 s1 s2 s3) (f94.H0 s0 s1 s2 s3)
  =f94.l0 L N (f94.X0_e0 κ) n s0 s1 s2 s3:=by
 intro n
 induction n with
 |zero=>intros;rfl
 |succ n ih=>
  intro s0 s1 s2 s3
  rw [evLp_succ,f94.s0_eq]
  delta f94.R0
  simp only [ih]
  rfl
theorem f94.p0_e0_eq {R:Type} (L N:Nat) (κ:AV→Option R) (z4:LI):
  (contAt (E94 L N) (evCallI (E94 L N) 1 2000) 1000 94 49 0 (codeOf Tryz.f94) (finK (E94 L N) 1000 Tryz.f94 (finC (.one (.sl i64)) κ))) (.exit 0) (f94.T0_e0 z4) (f94.H0_e0 z4)
  =f94.p0_e0 L N (fun a0=>κ (.tv (.sl i64) a0)) z4:=by kernel_rfl
theorem f94.b_eq {R:Type} (L N:Nat) (κ:AV→Option R) (x0:Graph) (x1:Int):
  evBody (E94 L N) (evCallI (E94 L N) 1 2000) 1000 94 Tryz.f94 [(.tv (.st 2) x0),(.tv i64 x1)] [] [] (finC (.one (.sl i64)) κ)
  =f94.b L N (fun a0=>κ (.tv (.sl i64) a0)) x0 x1:=by
 refine Eq.trans (b:=f94.b' L N (fun a0=>κ (.tv (.sl i64) a0)) (fun s0 s1 s2 s3=>evLp (E94 L N) (evCallI (E94 L N) 1 2000) 1000 94 49 0 f94.c0 (contAt (E94 L N) (evCallI (E94 L N) 1 2000) 1000 94 49 0 (codeOf Tryz.f94) (finK (E94 L N) 1000 Tryz.f94 (finC (.one (.sl i64)) κ))) L (f94.T0 s0 s1 s2 s3) (f94.H0 s0 s1 s2 s3)) x0 x1) (by kernel_rfl) ?_
 unfold f94.b
 simp only [f94.l0_eq]
 delta f94.X0_e0
 simp only [f94.p0_e0_eq]
theorem f94.ok (L N:Nat) (hΦ:TellsOk Tryz.prog ((Φ92 L N))):EntOk Tryz.prog 94 (f94.ent L N):=entDa_ok (E:=(E94 L N)) (dep:=1000) (f:=Tryz.f94) (sound_of hΦ) okP (callI_sound (sound_of hΦ) okP 1 2000) rfl fun d _ hy=>(f94.b_eq L N (unR (.one (.sl i64))) d.1 d.2.1).trans (Eq.trans (b:=f94.b L N some d.1 d.2.1) (by kernel_rfl) hy)
def Φ94 (L N:Nat):Tells:=(addT (Φ92 L N) 94 (f94.ent L N))
theorem Φ94_ok (L N:Nat):TellsOk Tryz.prog (Φ94 L N):=addT_ok (Φ92_ok L N) (f94.ok L N (Φ92_ok L N))
def f95_1.b' {R:Type} (L N:Nat) (k:Bool→Option R) (x0:Int) (x1:LB):Option R:=
 bif (decide (0≤x0)&&decide (x0<(x1.length:Int))) then
  k (listAt x1 false x0.toNat)
 else none
def f95_1.b {R:Type} (L N:Nat) (k:Bool→Option R) (x0:Int) (x1:LB):Option R:=
 f95_1.b' L N k x0 x1
def f95_1 (L N:Nat) (x0:Int) (x1:LB):Option (Bool):=f95_1.b L N some x0 x1
def f95_1.ent (L N:Nat):=entRf [(.dat i64),(.imp (.sl .bool) 0)] (.one .bool) fun d=>f95_1 L N d.1 d.2.1
noncomputable def E95_1 (L N:Nat):Env:={P:=Tryz.prog,ty:=tyOf,Φ:=(Φ94 L N),inl:=inlT,live:=lives,liveX:=livesX,L:=L,dp:=none,prom:=promT,heal:=healT,ren:=renT}
theorem f95_1.b_eq {R:Type} (L N:Nat) (κ:AV→Option R) (x0:Int) (x1:LB):
  evBody (E95_1 L N) (evCallI (E95_1 L N) 1 2000) 1000 95 Tryz.f95 [(.tv i64 x0),(.imp (.sl .bool) x1 0)] [] [] (finC (.one .bool) κ)
  =f95_1.b L N (fun a0=>κ (.tv .bool a0)) x0 x1:=by kernel_rfl
theorem f95_1.ok (L N:Nat) (hΦ:TellsOk Tryz.prog ((Φ94 L N))):EntOkO Tryz.prog 95 (f95_1.ent L N):=entRf_ok (E:=(E95_1 L N)) (dep:=1000) (f:=Tryz.f95) (sound_of hΦ) okP (callI_sound (sound_of hΦ) okP 1 2000) rfl rfl fun d _ hy=>(f95_1.b_eq L N (unR (.one .bool)) d.1 d.2.1).trans (Eq.trans (b:=f95_1.b L N some d.1 d.2.1) (by kernel_rfl) hy)
def Φ95_1 (L N:Nat):Tells:=(addO (Φ94 L N) 95 (f95_1.ent L N))
theorem Φ95_1_ok (L N:Nat):TellsOk Tryz.prog (Φ95_1 L N):=addO_ok (Φ94_ok L N) (f95_1.ok L N (Φ94_ok L N))
def f115_1.s0' {R:Type} (L N:Nat) (k0_e0:Option R) (k0_r:Int→Option R) (rec0:LI→LB→Int→Int→Option R) (s0:LI) (s1:LB) (s2:Int) (s3:Int):Option R:=
 bif (decide (s3<s2)) then
  bif (decide (0≤s3)&&decide (s3<(s0.length:Int))) then
   (f95_1 L N (listAt s0 (0:Int) s3.toNat) s1).bind fun y4=>
   bif y4 then
    k0_r s3
   else rec0 s0 s1 s2 (wi (s3+(1:Int)))
  else none
 else k0_e0
def f115_1.s0 {R:Type} (L N:Nat) (k0_e0:Option R) (k0_r:Int→Option R) (rec0:LI→LB→Int→Int→Option R) (s0:LI) (s1:LB) (s2:Int) (s3:Int):Option R:=
 f115_1.s0' L N k0_e0 k0_r rec0 s0 s1 s2 s3
def f115_1.l0 {R:Type} (L N:Nat) (k0_e0:Option R) (k0_r:Int→Option R):Nat→LI→LB→Int→Int→Option R
 |0,_,_,_,_=>none
 |n+1,s0,s1,s2,s3=>f115_1.s0 L N k0_e0 k0_r (f115_1.l0 L N k0_e0 k0_r n) s0 s1 s2 s3
def f115_1.T0 (s0:LI) (s1:LB) (s2:Int) (s3:Int):T:=mkT 19 [(0,(.tv (.sl i64) s0)),(1,(.fn 95 [(.imp (.sl .bool) s1 0)])),(7,(.tv i64 s2)),(8,(.tv i64 s3))]
def f115_1.H0 (s0:LI) (s1:LB) (s2:Int) (s3:Int):H:=[]
def f115_1.T0_e0:T:=mkT 19 []
def f115_1.H0_e0:H:=[]
def f115_1.T0_r (z5:Int):T:=mkT 19 [(4,(.tv i64 z5))]
def f115_1.H0_r (z5:Int):H:=[]
def f115_1.p0_e0' {R:Type} (L N:Nat) (k:Int→Option R):Option R:=
 k (-1:Int)
def f115_1.p0_e0 {R:Type} (L N:Nat) (k:Int→Option R):Option R:=
 f115_1.p0_e0' L N k
def f115_1.p0_r' {R:Type} (L N:Nat) (k:Int→Option R) (z5:Int):Option R:=
 k z5
def f115_1.p0_r {R:Type} (L N:Nat) (k:Int→Option R) (z5:Int):Option R:=
 f115_1.p0_r' L N k z5
def f115_1.b' {R:Type} (L N:Nat) (k:Int→Option R) (w0:LI→LB→Int→Int→Option R) (x0:LI) (x1:LB):Option R:=
 w0 x0 x1 (x0.length:Int) (0:Int)
def f115_1.b {R:Type} (L N:Nat) (k:Int→Option R) (x0:LI) (x1:LB):Option R:=
 f115_1.b' L N k (fun s0 s1 s2 s3=>f115_1.l0 L N (f115_1.p0_e0 L N k) (fun z5=>f115_1.p0_r L N k z5) L s0 s1 s2 s3) x0 x1
def f115_1 (L N:Nat) (x0:LI) (x1:LB):Option (Int):=f115_1.b L N some x0 x1
def f115_1.ent (L N:Nat):=entRf [(.dat (.sl i64)),(.fn 95 [(.imp (.sl .bool) 0)])] (.one i64) fun d=>f115_1 L N d.1 d.2.1.1
noncomputable def E115_1 (L N:Nat):Env:={P:=Tryz.prog,ty:=tyOf,Φ:=(Φ95_1 L N),inl:=inlT,live:=lives,liveX:=livesX,L:=L,dp:=none,prom:=promT,heal:=healT,ren:=renT}
noncomputable def f115_1.c0:Code:=loopAt 0 (codeOf Tryz.f115)
def f115_1.X0_e0 {R:Type} (κ:KX R):=κ (.exit 0) f115_1.T0_e0 f115_1.H0_e0
def f115_1.X0_r {R:Type} (κ:KX R):=fun z5=>κ .ret (f115_1.T0_r z5) (f115_1.H0_r z5)
def f115_1.R0 {R:Type} (rec:KT R):=fun s0 s1 s2 s3=>rec (f115_1.T0 s0 s1 s2 s3) (f115_1.H0 s0 s1 s2 s3)
theorem f115_1.s0_eq {R:Type} (L N:Nat) (κ:KX R) (rec:KT R) (s0:LI) (s1:LB) (s2:Int) (s3:Int):
  evRd (E115_1 L N) (evCallI (E115_1 L N) 1 2000) 1000 115 19 0 f115_1.c0 κ rec (f115_1.T0 s0 s1 s2 s3) (f115_1.H0 s0 s1 s2 s3)
  =f115_1.s0 L N (f115_1.X0_e0 κ) (f115_1.X0_r κ) (f115_1.R0 rec) s0 s1 s2 s3:=by kernel_rfl
theorem f115_1.l0_eq {R:Type} (L N:Nat) (κ:KX R):∀(n:Nat) (s0:LI) (s1:LB) (s2:Int) (s3:Int),
  evLp (E115_1 L N) (evCallI (E115_1 L N) 1 2000) 1000 115 19 0 f115_1.c0 κ n (f115_1.T0 s0 s1 s2 s3) (f115_1.H0 s0 s1 s2 s3)
  =f115_1.l0 L N (f115_1.X0_e0 κ) (f115_1.X0_r κ) n s0 s1 s2 s3:=by
 intro n
 induction n with
 |zero=>intros;rfl
 |succ n ih=>
  intro s0 s1 s2 s3
  rw [evLp_succ,f115_1.s0_eq]
  delta f115_1.R0
  simp only [ih]
  rfl
theorem f115_1.p0_e0_eq {R:Type} (L N:Nat) (κ:AV→Option R):
  (contAt (E115_1 L N) (evCallI (E115_1 L N) 1 2000) 1000 115 19 0 (codeOf Tryz.f115) (finK (E115_1 L N) 1000 Tryz.f115 (finC (.one i64) κ))) (.exit 0) f115_1.T0_e0 f115_1.H0_e0
  =f115_1.p0_e0 L N (fun a0=>κ (.tv i64 a0)):=by kernel_rfl
theorem f115_1.p0_r_eq {R:Type} (L N:Nat) (κ:AV→Option R) (z5:Int):
  (contAt (E115_1 L N) (evCallI (E115_1 L N) 1 2000) 1000 115 19 0 (codeOf Tryz.f115) (finK (E115_1 L N) 1000 Tryz.f115 (finC (.one i64) κ))) .ret (f115_1.T0_r z5) (f115_1.H0_r z5)
  =f115_1.p0_r L N (fun a0=>κ (.tv i64 a0)) z5:=by kernel_rfl
theorem f115_1.b_eq {R:Type} (L N:Nat) (κ:AV→Option R) (x0:LI) (x1:LB):
  evBody (E115_1 L N) (evCallI (E115_1 L N) 1 2000) 1000 115 Tryz.f115 [(.tv (.sl i64) x0),(.fn 95 [(.imp (.sl .bool) x1 0)])] [] [] (finC (.one i64) κ)
  =f115_1.b L N (fun a0=>κ (.tv i64 a0)) x0 x1:=by
 refine Eq.trans (b:=f115_1.b' L N (fun a0=>κ (.tv i64 a0)) (fun s0 s1 s2 s3=>evLp (E115_1 L N) (evCallI (E115_1 L N) 1 2000) 1000 115 19 0 f115_1.c0 (contAt (E115_1 L N) (evCallI (E115_1 L N) 1 2000) 1000 115 19 0 (codeOf Tryz.f115) (finK (E115_1 L N) 1000 Tryz.f115 (finC (.one i64) κ))) L (f115_1.T0 s0 s1 s2 s3) (f115_1.H0 s0 s1 s2 s3)) x0 x1) (by kernel_rfl) ?_
 unfold f115_1.b
 simp only [f115_1.l0_eq]
 delta f115_1.X0_e0 f115_1.X0_r
 simp only [f115_1.p0_e0_eq,f115_1.p0_r_eq]
theorem f115_1.ok (L N:Nat) (hΦ:TellsOk Tryz.prog ((Φ95_1 L N))):EntOkO Tryz.prog 115 (f115_1.ent L N):=entRf_ok (E:=(E115_1 L N)) (dep:=1000) (f:=Tryz.f115) (sound_of hΦ) okP (callI_sound (sound_of hΦ) okP 1 2000) rfl rfl fun d _ hy=>(f115_1.b_eq L N (unR (.one i64)) d.1 d.2.1.1).trans (Eq.trans (b:=f115_1.b L N some d.1 d.2.1.1) (by kernel_rfl) hy)
def Φ115_1 (L N:Nat):Tells:=(addO (Φ95_1 L N) 115 (f115_1.ent L N))
theorem Φ115_1_ok (L N:Nat):TellsOk Tryz.prog (Φ115_1 L N):=addO_ok (Φ95_1_ok L N) (f115_1.ok L N (Φ95_1_ok L N))
def f93_1.b' {R:Type} (L N:Nat) (k:Bool→Option R) (x0:LI) (x1:LB):Option R:=
 (f115_1 L N x0 x1).bind fun y0=>
 k (decide (y0≥(0:Int)))
def f93_1.b {R:Type} (L N:Nat) (k:Bool→Option R) (x0:LI) (x1:LB):Option R:=
 f93_1.b' L N k x0 x1
def f93_1 (L N:Nat) (x0:LI) (x1:LB):Option (Bool):=f93_1.b L N some x0 x1
def f93_1.ent (L N:Nat):=entRf [(.dat (.sl i64)),(.fn 95 [(.imp (.sl .bool) 0)])] (.one .bool) fun d=>f93_1 L N d.1 d.2.1.1
noncomputable def E93_1 (L N:Nat):Env:={P:=Tryz.prog,ty:=tyOf,Φ:=(Φ115_1 L N),inl:=inlT,live:=lives,liveX:=livesX,L:=L,dp:=none,prom:=promT,heal:=healT,ren:=renT}
theorem f93_1.b_eq {R:Type} (L N:Nat) (κ:AV→Option R) (x0:LI) (x1:LB):
  evBody (E93_1 L N) (evCallI (E93_1 L N) 1 2000) 1000 93 Tryz.f93 [(.tv (.sl i64) x0),(.fn 95 [(.imp (.sl .bool) x1 0)])] [] [] (finC (.one .bool) κ)
  =f93_1.b L N (fun a0=>κ (.tv .bool a0)) x0 x1:=by kernel_rfl
theorem f93_1.ok (L N:Nat) (hΦ:TellsOk Tryz.prog ((Φ115_1 L N))):EntOkO Tryz.prog 93 (f93_1.ent L N):=entRf_ok (E:=(E93_1 L N)) (dep:=1000) (f:=Tryz.f93) (sound_of hΦ) okP (callI_sound (sound_of hΦ) okP 1 2000) rfl rfl fun d _ hy=>(f93_1.b_eq L N (unR (.one .bool)) d.1 d.2.1.1).trans (Eq.trans (b:=f93_1.b L N some d.1 d.2.1.1) (by kernel_rfl) hy)
def Φ93_1 (L N:Nat):Tells:=(addO (Φ115_1 L N) 93 (f93_1.ent L N))
theorem Φ93_1_ok (L N:Nat):TellsOk Tryz.prog (Φ93_1 L N):=addO_ok (Φ115_1_ok L N) (f93_1.ok L N (Φ115_1_ok L N))
def f63.b' {R:Type} (L N:Nat) (k:Bool→Option R) (x0:Graph):Option R:=
 (f92 L N (Graph.mk x0.moves)).bind fun y0=>
 (f94 L N (Graph.mk x0.moves) (0:Int)).bind fun y1=>
 (f93_1 L N y1 y0).bind fun y2=>
 k y2
def f63.b {R:Type} (L N:Nat) (k:Bool→Option R) (x0:Graph):Option R:=
 f63.b' L N k x0
def f63 (L N:Nat) (x0:Graph):Option (Bool):=f63.b L N some x0
def f63.ent (L N:Nat):=entRo [(.st 2)] (.one .bool) fun d=>f63 L N d.1
noncomputable def E63 (L N:Nat):Env:={P:=Tryz.prog,ty:=tyOf,Φ:=(Φ93_1 L N),inl:=inlT,live:=lives,liveX:=livesX,L:=L,dp:=none,prom:=promT,heal:=healT,ren:=renT}
theorem f63.b_eq {R:Type} (L N:Nat) (κ:AV→Option R) (x0:Graph):
  evBody (E63 L N) (evCallI (E63 L N) 1 2000) 1000 63 Tryz.f63 [(.tv (.st 2) x0)] [] [] (finC (.one .bool) κ)
  =f63.b L N (fun a0=>κ (.tv .bool a0)) x0:=by kernel_rfl
theorem f63.ok (L N:Nat) (hΦ:TellsOk Tryz.prog ((Φ93_1 L N))):EntOk Tryz.prog 63 (f63.ent L N):=entRo_ok (E:=(E63 L N)) (dep:=1000) (f:=Tryz.f63) (sound_of hΦ) okP (callI_sound (sound_of hΦ) okP 1 2000) rfl rfl fun d _ hy=>(f63.b_eq L N (unR (.one .bool)) d.1).trans (Eq.trans (b:=f63.b L N some d.1) (by kernel_rfl) hy)
def Φ63 (L N:Nat):Tells:=(addT (Φ93_1 L N) 63 (f63.ent L N))
theorem Φ63_ok (L N:Nat):TellsOk Tryz.prog (Φ63 L N):=addT_ok (Φ93_1_ok L N) (f63.ok L N (Φ93_1_ok L N))
def f96.b' {R:Type} (L N:Nat) (k:Bool→Option R) (x0:Move):Option R:=
 k (x0.act==(0:Int))
def f96.b {R:Type} (L N:Nat) (k:Bool→Option R) (x0:Move):Option R:=
 f96.b' L N k x0
def f96 (L N:Nat) (x0:Move):Option (Bool):=f96.b L N some x0
def f96.ent (L N:Nat):=entRo [(.st 0)] (.one .bool) fun d=>f96 L N d.1
noncomputable def E96 (L N:Nat):Env:={P:=Tryz.prog,ty:=tyOf,Φ:=(Φ63 L N),inl:=inlT,live:=lives,liveX:=livesX,L:=L,dp:=none,prom:=promT,heal:=healT,ren:=renT}
theorem f96.b_eq {R:Type} (L N:Nat) (κ:AV→Option R) (x0:Move):
  evBody (E96 L N) (evCallI (E96 L N) 1 2000) 1000 96 Tryz.f96 [(.tv (.st 0) x0)] [] [] (finC (.one .bool) κ)
  =f96.b L N (fun a0=>κ (.tv .bool a0)) x0:=by kernel_rfl
theorem f96.ok (L N:Nat) (hΦ:TellsOk Tryz.prog ((Φ63 L N))):EntOk Tryz.prog 96 (f96.ent L N):=entRo_ok (E:=(E96 L N)) (dep:=1000) (f:=Tryz.f96) (sound_of hΦ) okP (callI_sound (sound_of hΦ) okP 1 2000) rfl rfl fun d _ hy=>(f96.b_eq L N (unR (.one .bool)) d.1).trans (Eq.trans (b:=f96.b L N some d.1) (by kernel_rfl) hy)
def Φ96 (L N:Nat):Tells:=(addT (Φ63 L N) 96 (f96.ent L N))
theorem Φ96_ok (L N:Nat):TellsOk Tryz.prog (Φ96 L N):=addT_ok (Φ63_ok L N) (f96.ok L N (Φ63_ok L N))
def f97_2.s0' {R:Type} (L N:Nat) (k0_e0:Option R) (k0_r:Int→Option R) (rec0:LM→Int→Int→Option R) (s0:LM) (s1:Int) (s2:Int):Option R:=
 bif (decide (s2<s1)) then
  bif (decide (0≤s2)&&decide (s2<(s0.length:Int))) then
   (f96 L N (listAt s0 (Ty.dflt (.st 0)) s2.toNat)).bind fun y3=>
   bif y3 then
    k0_r s2
   else rec0 s0 s1 (wi (s2+(1:Int)))
  else none
 else k0_e0
def f97_2.s0 {R:Type} (L N:Nat) (k0_e0:Option R) (k0_r:Int→Option R) (rec0:LM→Int→Int→Option R) (s0:LM) (s1:Int) (s2:Int):Option R:=
 f97_2.s0' L N k0_e0 k0_r rec0 s0 s1 s2
def f97_2.l0 {R:Type} (L N:Nat) (k0_e0:Option R) (k0_r:Int→Option R):Nat→LM→Int→Int→Option R
 |0,_,_,_=>none
 |n+1,s0,s1,s2=>f97_2.s0 L N k0_e0 k0_r (f97_2.l0 L N k0_e0 k0_r n) s0 s1 s2
def f97_2.T0 (s0:LM) (s1:Int) (s2:Int):T:=mkT 19 [(0,(.tv (.sl (.st 0)) s0)),(1,(.fn 96 [])),(7,(.tv i64 s1)),(8,(.tv i64 s2))]
def f97_2.H0 (s0:LM) (s1:Int) (s2:Int):H:=[]
def f97_2.T0_e0:T:=mkT 19 []
def f97_2.H0_e0:H:=[]
def f97_2.T0_r (z4:Int):T:=mkT 19 [(4,(.tv i64 z4))]
def f97_2.H0_r (z4:Int):H:=[]
def f97_2.p0_e0' {R:Type} (L N:Nat) (k:Int→Option R):Option R:=
 k (-1:Int)
def f97_2.p0_e0 {R:Type} (L N:Nat) (k:Int→Option R):Option R:=
 f97_2.p0_e0' L N k
def f97_2.p0_r' {R:Type} (L N:Nat) (k:Int→Option R) (z4:Int):Option R:=
 k z4
def f97_2.p0_r {R:Type} (L N:Nat) (k:Int→Option R) (z4:Int):Option R:=
 f97_2.p0_r' L N k z4
def f97_2.b' {R:Type} (L N:Nat) (k:Int→Option R) (w0:LM→Int→Int→Option R) (x0:LM):Option R:=
 w0 x0 (x0.length:Int) (0:Int)
def f97_2.b {R:Type} (L N:Nat) (k:Int→Option R) (x0:LM):Option R:=
 f97_2.b' L N k (fun s0 s1 s2=>f97_2.l0 L N (f97_2.p0_e0 L N k) (fun z4=>f97_2.p0_r L N k z4) L s0 s1 s2) x0
def f97_2 (L N:Nat) (x0:LM):Option (Int):=f97_2.b L N some x0
def f97_2.ent (L N:Nat):=entRf [(.dat (.sl (.st 0))),(.fn 96 [])] (.one i64) fun d=>f97_2 L N d.1
noncomputable def E97_2 (L N:Nat):Env:={P:=Tryz.prog,ty:=tyOf,Φ:=(Φ96 L N),inl:=inlT,live:=lives,liveX:=livesX,L:=L,dp:=none,prom:=promT,heal:=healT,ren:=renT}
noncomputable def f97_2.c0:Code:=loopAt 0 (codeOf Tryz.f97)
def f97_2.X0_e0 {R:Type} (κ:KX R):=κ (.exit 0) f97_2.T0_e0 f97_2.H0_e0
def f97_2.X0_r {R:Type} (κ:KX R):=fun z4=>κ .ret (f97_2.T0_r z4) (f97_2.H0_r z4)
def f97_2.R0 {R:Type} (rec:KT R):=fun s0 s1 s2=>rec (f97_2.T0 s0 s1 s2) (f97_2.H0 s0 s1 s2)
theorem f97_2.s0_eq {R:Type} (L N:Nat) (κ:KX R) (rec:KT R) (s0:LM) (s1:Int) (s2:Int):
  evRd (E97_2 L N) (evCallI (E97_2 L N) 1 2000) 1000 97 19 0 f97_2.c0 κ rec (f97_2.T0 s0 s1 s2) (f97_2.H0 s0 s1 s2)
  =f97_2.s0 L N (f97_2.X0_e0 κ) (f97_2.X0_r κ) (f97_2.R0 rec) s0 s1 s2:=by kernel_rfl
theorem f97_2.l0_eq {R:Type} (L N:Nat) (κ:KX R):∀(n:Nat) (s0:LM) (s1:Int) (s2:Int),
  evLp (E97_2 L N) (evCallI (E97_2 L N) 1 2000) 1000 97 19 0 f97_2.c0 κ n (f97_2.T0 s0 s1 s2) (f97_2.H0 s0 s1 s2)
  =f97_2.l0 L N (f97_2.X0_e0 κ) (f97_2.X0_r κ) n s0 s1 s2:=by
 intro n
 induction n with
 |zero=>intros;rfl
 |succ n ih=>
  intro s0 s1 s2
  rw [evLp_succ,f97_2.s0_eq]
  delta f97_2.R0
  simp only [ih]
  rfl
theorem f97_2.p0_e0_eq {R:Type} (L N:Nat) (κ:AV→Option R):
  (contAt (E97_2 L N) (evCallI (E97_2 L N) 1 2000) 1000 97 19 0 (codeOf Tryz.f97) (finK (E97_2 L N) 1000 Tryz.f97 (finC (.one i64) κ))) (.exit 0) f97_2.T0_e0 f97_2.H0_e0
  =f97_2.p0_e0 L N (fun a0=>κ (.tv i64 a0)):=by kernel_rfl
theorem f97_2.p0_r_eq {R:Type} (L N:Nat) (κ:AV→Option R) (z4:Int):
  (contAt (E97_2 L N) (evCallI (E97_2 L N) 1 2000) 1000 97 19 0 (codeOf Tryz.f97) (finK (E97_2 L N) 1000 Tryz.f97 (finC (.one i64) κ))) .ret (f97_2.T0_r z4) (f97_2.H0_r z4)
  =f97_2.p0_r L N (fun a0=>κ (.tv i64 a0)) z4:=by kernel_rfl
theorem f97_2.b_eq {R:Type} (L N:Nat) (κ:AV→Option R) (x0:LM):
  evBody (E97_2 L N) (evCallI (E97_2 L N) 1 2000) 1000 97 Tryz.f97 [(.tv (.sl (.st 0)) x0),(.fn 96 [])] [] [] (finC (.one i64) κ)
  =f97_2.b L N (fun a0=>κ (.tv i64 a0)) x0:=by
 refine Eq.trans (b:=f97_2.b' L N (fun a0=>κ (.tv i64 a0)) (fun s0 s1 s2=>evLp (E97_2 L N) (evCallI (E97_2 L N) 1 2000) 1000 97 19 0 f97_2.c0 (contAt (E97_2 L N) (evCallI (E97_2 L N) 1 2000) 1000 97 19 0 (codeOf Tryz.f97) (finK (E97_2 L N) 1000 Tryz.f97 (finC (.one i64) κ))) L (f97_2.T0 s0 s1 s2) (f97_2.H0 s0 s1 s2)) x0) (by kernel_rfl) ?_
 unfold f97_2.b
 simp only [f97_2.l0_eq]
 delta f97_2.X0_e0 f97_2.X0_r
 simp only [f97_2.p0_e0_eq,f97_2.p0_r_eq]
theorem f97_2.ok (L N:Nat) (hΦ:TellsOk Tryz.prog ((Φ96 L N))):EntOkO Tryz.prog 97 (f97_2.ent L N):=entRf_ok (E:=(E97_2 L N)) (dep:=1000) (f:=Tryz.f97) (sound_of hΦ) okP (callI_sound (sound_of hΦ) okP 1 2000) rfl rfl fun d _ hy=>(f97_2.b_eq L N (unR (.one i64)) d.1).trans (Eq.trans (b:=f97_2.b L N some d.1) (by kernel_rfl) hy)
def Φ97_2 (L N:Nat):Tells:=(addO (Φ96 L N) 97 (f97_2.ent L N))
theorem Φ97_2_ok (L N:Nat):TellsOk Tryz.prog (Φ97_2 L N):=addO_ok (Φ96_ok L N) (f97_2.ok L N (Φ96_ok L N))
def f66_3.b' {R:Type} (L N:Nat) (k:Bool→Option R) (x0:LM):Option R:=
 (f97_2 L N x0).bind fun y0=>
 k (decide (y0≥(0:Int)))
def f66_3.b {R:Type} (L N:Nat) (k:Bool→Option R) (x0:LM):Option R:=
 f66_3.b' L N k x0
def f66_3 (L N:Nat) (x0:LM):Option (Bool):=f66_3.b L N some x0
def f66_3.ent (L N:Nat):=entRf [(.dat (.sl (.st 0))),(.fn 96 [])] (.one .bool) fun d=>f66_3 L N d.1
noncomputable def E66_3 (L N:Nat):Env:={P:=Tryz.prog,ty:=tyOf,Φ:=(Φ97_2 L N),inl:=inlT,live:=lives,liveX:=livesX,L:=L,dp:=none,prom:=promT,heal:=healT,ren:=renT}
theorem f66_3.b_eq {R:Type} (L N:Nat) (κ:AV→Option R) (x0:LM):
  evBody (E66_3 L N) (evCallI (E66_3 L N) 1 2000) 1000 66 Tryz.f66 [(.tv (.sl (.st 0)) x0),(.fn 96 [])] [] [] (finC (.one .bool) κ)
  =f66_3.b L N (fun a0=>κ (.tv .bool a0)) x0:=by kernel_rfl
theorem f66_3.ok (L N:Nat) (hΦ:TellsOk Tryz.prog ((Φ97_2 L N))):EntOkO Tryz.prog 66 (f66_3.ent L N):=entRf_ok (E:=(E66_3 L N)) (dep:=1000) (f:=Tryz.f66) (sound_of hΦ) okP (callI_sound (sound_of hΦ) okP 1 2000) rfl rfl fun d _ hy=>(f66_3.b_eq L N (unR (.one .bool)) d.1).trans (Eq.trans (b:=f66_3.b L N some d.1) (by kernel_rfl) hy)
def Φ66_3 (L N:Nat):Tells:=(addO (Φ97_2 L N) 66 (f66_3.ent L N))
theorem Φ66_3_ok (L N:Nat):TellsOk Tryz.prog (Φ66_3 L N):=addO_ok (Φ97_2_ok L N) (f66_3.ok L N (Φ97_2_ok L N))
def f65.b' {R:Type} (L N:Nat) (k:Bool→Option R) (x0:Graph) (x1:Int):Option R:=
 bif (decide (0≤x1)&&decide (x1<(x0.moves.length:Int))) then
  (f66_3 L N (listAt x0.moves [] x1.toNat)).bind fun y0=>
  k (!y0)
 else none
def f65.b {R:Type} (L N:Nat) (k:Bool→Option R) (x0:Graph) (x1:Int):Option R:=
 f65.b' L N k x0 x1
def f65 (L N:Nat) (x0:Graph) (x1:Int):Option (Bool):=f65.b L N some x0 x1
def f65.ent (L N:Nat):=entRo [(.st 2),i64] (.one .bool) fun d=>f65 L N d.1 d.2.1
noncomputable def E65 (L N:Nat):Env:={P:=Tryz.prog,ty:=tyOf,Φ:=(Φ66_3 L N),inl:=inlT,live:=lives,liveX:=livesX,L:=L,dp:=none,prom:=promT,heal:=healT,ren:=renT}
theorem f65.b_eq {R:Type} (L N:Nat) (κ:AV→Option R) (x0:Graph) (x1:Int):
  evBody (E65 L N) (evCallI (E65 L N) 1 2000) 1000 65 Tryz.f65 [(.tv (.st 2) x0),(.tv i64 x1)] [] [] (finC (.one .bool) κ)
  =f65.b L N (fun a0=>κ (.tv .bool a0)) x0 x1:=by kernel_rfl
theorem f65.ok (L N:Nat) (hΦ:TellsOk Tryz.prog ((Φ66_3 L N))):EntOk Tryz.prog 65 (f65.ent L N):=entRo_ok (E:=(E65 L N)) (dep:=1000) (f:=Tryz.f65) (sound_of hΦ) okP (callI_sound (sound_of hΦ) okP 1 2000) rfl rfl fun d _ hy=>(f65.b_eq L N (unR (.one .bool)) d.1 d.2.1).trans (Eq.trans (b:=f65.b L N some d.1 d.2.1) (by kernel_rfl) hy)
def Φ65 (L N:Nat):Tells:=(addT (Φ66_3 L N) 65 (f65.ent L N))
theorem Φ65_ok (L N:Nat):TellsOk Tryz.prog (Φ65 L N):=addT_ok (Φ66_3_ok L N) (f65.ok L N (Φ66_3_ok L N))
def f67_1.b' {R:Type} (L N:Nat) (k:Bool→Option R) (x0:Move) (x1:Int):Option R:=
 k (x0.act==x1)
def f67_1.b {R:Type} (L N:Nat) (k:Bool→Option R) (x0:Move) (x1:Int):Option R:=
 f67_1.b' L N k x0 x1
def f67_1 (L N:Nat) (x0:Move) (x1:Int):Option (Bool):=f67_1.b L N some x0 x1
def f67_1.ent (L N:Nat):=entRf [(.dat (.st 0)),(.imp i64 0)] (.one .bool) fun d=>f67_1 L N d.1 d.2.1
noncomputable def E67_1 (L N:Nat):Env:={P:=Tryz.prog,ty:=tyOf,Φ:=(Φ65 L N),inl:=inlT,live:=lives,liveX:=livesX,L:=L,dp:=none,prom:=promT,heal:=healT,ren:=renT}
theorem f67_1.b_eq {R:Type} (L N:Nat) (κ:AV→Option R) (x0:Move) (x1:Int):
  evBody (E67_1 L N) (evCallI (E67_1 L N) 1 2000) 1000 67 Tryz.f67 [(.tv (.st 0) x0),(.imp i64 x1 0)] [] [] (finC (.one .bool) κ)
  =f67_1.b L N (fun a0=>κ (.tv .bool a0)) x0 x1:=by kernel_rfl
theorem f67_1.ok (L N:Nat) (hΦ:TellsOk Tryz.prog ((Φ65 L N))):EntOkO Tryz.prog 67 (f67_1.ent L N):=entRf_ok (E:=(E67_1 L N)) (dep:=1000) (f:=Tryz.f67) (sound_of hΦ) okP (callI_sound (sound_of hΦ) okP 1 2000) rfl rfl fun d _ hy=>(f67_1.b_eq L N (unR (.one .bool)) d.1 d.2.1).trans (Eq.trans (b:=f67_1.b L N some d.1 d.2.1) (by kernel_rfl) hy)
def Φ67_1 (L N:Nat):Tells:=(addO (Φ65 L N) 67 (f67_1.ent L N))
theorem Φ67_1_ok (L N:Nat):TellsOk Tryz.prog (Φ67_1 L N):=addO_ok (Φ65_ok L N) (f67_1.ok L N (Φ65_ok L N))
def f97_3.s0' {R:Type} (L N:Nat) (k0_e0:Option R) (k0_r:Int→Option R) (rec0:LM→Int→Int→Int→Option R) (s0:LM) (s1:Int) (s2:Int) (s3:Int):Option R:=
 bif (decide (s3<s2)) then
  bif (decide (0≤s3)&&decide (s3<(s0.length:Int))) then
   (f67_1 L N (listAt s0 (Ty.dflt (.st 0)) s3.toNat) s1).bind fun y4=>
   bif y4 then
    k0_r s3
   else rec0 s0 s1 s2 (wi (s3+(1:Int)))
  else none
 else k0_e0
def f97_3.s0 {R:Type} (L N:Nat) (k0_e0:Option R) (k0_r:Int→Option R) (rec0:LM→Int→Int→Int→Option R) (s0:LM) (s1:Int) (s2:Int) (s3:Int):Option R:=
 f97_3.s0' L N k0_e0 k0_r rec0 s0 s1 s2 s3
def f97_3.l0 {R:Type} (L N:Nat) (k0_e0:Option R) (k0_r:Int→Option R):Nat→LM→Int→Int→Int→Option R
 |0,_,_,_,_=>none
 |n+1,s0,s1,s2,s3=>f97_3.s0 L N k0_e0 k0_r (f97_3.l0 L N k0_e0 k0_r n) s0 s1 s2 s3
def f97_3.T0 (s0:LM) (s1:Int) (s2:Int) (s3:Int):T:=mkT 19 [(0,(.tv (.sl (.st 0)) s0)),(1,(.fn 67 [(.imp i64 s1 0)])),(7,(.tv i64 s2)),(8,(.tv i64 s3))]
def f97_3.H0 (s0:LM) (s1:Int) (s2:Int) (s3:Int):H:=[]
def f97_3.T0_e0:T:=mkT 19 []
def f97_3.H0_e0:H:=[]
def f97_3.T0_r (z5:Int):T:=mkT 19 [(4,(.tv i64 z5))]
def f97_3.H0_r (z5:Int):H:=[]
def f97_3.p0_e0' {R:Type} (L N:Nat) (k:Int→Option R):Option R:=
 k (-1:Int)
def f97_3.p0_e0 {R:Type} (L N:Nat) (k:Int→Option R):Option R:=
 f97_3.p0_e0' L N k
def f97_3.p0_r' {R:Type} (L N:Nat) (k:Int→Option R) (z5:Int):Option R:=
 k z5
def f97_3.p0_r {R:Type} (L N:Nat) (k:Int→Option R) (z5:Int):Option R:=
 f97_3.p0_r' L N k z5
def f97_3.b' {R:Type} (L N:Nat) (k:Int→Option R) (w0:LM→Int→Int→Int→Option R) (x0:LM) (x1:Int):Option R:=
 w0 x0 x1 (x0.length:Int) (0:Int)
def f97_3.b {R:Type} (L N:Nat) (k:Int→Option R) (x0:LM) (x1:Int):Option R:=
 f97_3.b' L N k (fun s0 s1 s2 s3=>f97_3.l0 L N (f97_3.p0_e0 L N k) (fun z5=>f97_3.p0_r L N k z5) L s0 s1 s2 s3) x0 x1
def f97_3 (L N:Nat) (x0:LM) (x1:Int):Option (Int):=f97_3.b L N some x0 x1
def f97_3.ent (L N:Nat):=entRf [(.dat (.sl (.st 0))),(.fn 67 [(.imp i64 0)])] (.one i64) fun d=>f97_3 L N d.1 d.2.1.1
noncomputable def E97_3 (L N:Nat):Env:={P:=Tryz.prog,ty:=tyOf,Φ:=(Φ67_1 L N),inl:=inlT,live:=lives,liveX:=livesX,L:=L,dp:=none,prom:=promT,heal:=healT,ren:=renT}
noncomputable def f97_3.c0:Code:=loopAt 0 (codeOf Tryz.f97)
def f97_3.X0_e0 {R:Type} (κ:KX R):=κ (.exit 0) f97_3.T0_e0 f97_3.H0_e0
def f97_3.X0_r {R:Type} (κ:KX R):=fun z5=>κ .ret (f97_3.T0_r z5) (f97_3.H0_r z5)
def f97_3.R0 {R:Type} (rec:KT R):=fun s0 s1 s2 s3=>rec (f97_3.T0 s0 s1 s2 s3) (f97_3.H0 s0 s1 s2 s3)
theorem f97_3.s0_eq {R:Type} (L N:Nat) (κ:KX R) (rec:KT R) (s0:LM) (s1:Int) (s2:Int) (s3:Int):
  evRd (E97_3 L N) (evCallI (E97_3 L N) 1 2000) 1000 97 19 0 f97_3.c0 κ rec (f97_3.T0 s0 s1 s2 s3) (f97_3.H0 s0 s1 s2 s3)
  =f97_3.s0 L N (f97_3.X0_e0 κ) (f97_3.X0_r κ) (f97_3.R0 rec) s0 s1 s2 s3:=by kernel_rfl
theorem f97_3.l0_eq {R:Type} (L N:Nat) (κ:KX R):∀(n:Nat) (s0:LM) (s1:Int) (s2:Int) (s3:Int),
  evLp (E97_3 L N) (evCallI (E97_3 L N) 1 2000) 1000 97 19 0 f97_3.c0 κ n (f97_3.T0 s0 s1 s2 s3) (f97_3.H0 s0 s1 s2 s3)
  =f97_3.l0 L N (f97_3.X0_e0 κ) (f97_3.X0_r κ) n s0 s1 s2 s3:=by
 intro n
 induction n with
 |zero=>intros;rfl
 |succ n ih=>
  intro s0 s1 s2 s3
  rw [evLp_succ,f97_3.s0_eq]
  delta f97_3.R0
  simp only [ih]
  rfl
theorem f97_3.p0_e0_eq {R:Type} (L N:Nat) (κ:AV→Option R):
  (contAt (E97_3 L N) (evCallI (E97_3 L N) 1 2000) 1000 97 19 0 (codeOf Tryz.f97) (finK (E97_3 L N) 1000 Tryz.f97 (finC (.one i64) κ))) (.exit 0) f97_3.T0_e0 f97_3.H0_e0
  =f97_3.p0_e0 L N (fun a0=>κ (.tv i64 a0)):=by kernel_rfl
theorem f97_3.p0_r_eq {R:Type} (L N:Nat) (κ:AV→Option R) (z5:Int):
  (contAt (E97_3 L N) (evCallI (E97_3 L N) 1 2000) 1000 97 19 0 (codeOf Tryz.f97) (finK (E97_3 L N) 1000 Tryz.f97 (finC (.one i64) κ))) .ret (f97_3.T0_r z5) (f97_3.H0_r z5)
  =f97_3.p0_r L N (fun a0=>κ (.tv i64 a0)) z5:=by kernel_rfl
theorem f97_3.b_eq {R:Type} (L N:Nat) (κ:AV→Option R) (x0:LM) (x1:Int):
  evBody (E97_3 L N) (evCallI (E97_3 L N) 1 2000) 1000 97 Tryz.f97 [(.tv (.sl (.st 0)) x0),(.fn 67 [(.imp i64 x1 0)])] [] [] (finC (.one i64) κ)
  =f97_3.b L N (fun a0=>κ (.tv i64 a0)) x0 x1:=by
 refine Eq.trans (b:=f97_3.b' L N (fun a0=>κ (.tv i64 a0)) (fun s0 s1 s2 s3=>evLp (E97_3 L N) (evCallI (E97_3 L N) 1 2000) 1000 97 19 0 f97_3.c0 (contAt (E97_3 L N) (evCallI (E97_3 L N) 1 2000) 1000 97 19 0 (codeOf Tryz.f97) (finK (E97_3 L N) 1000 Tryz.f97 (finC (.one i64) κ))) L (f97_3.T0 s0 s1 s2 s3) (f97_3.H0 s0 s1 s2 s3)) x0 x1) (by kernel_rfl) ?_
 unfold f97_3.b
 simp only [f97_3.l0_eq]
 delta f97_3.X0_e0 f97_3.X0_r
 simp only [f97_3.p0_e0_eq,f97_3.p0_r_eq]
theorem f97_3.ok (L N:Nat) (hΦ:TellsOk Tryz.prog ((Φ67_1 L N))):EntOkO Tryz.prog 97 (f97_3.ent L N):=entRf_ok (E:=(E97_3 L N)) (dep:=1000) (f:=Tryz.f97) (sound_of hΦ) okP (callI_sound (sound_of hΦ) okP 1 2000) rfl rfl fun d _ hy=>(f97_3.b_eq L N (unR (.one i64)) d.1 d.2.1.1).trans (Eq.trans (b:=f97_3.b L N some d.1 d.2.1.1) (by kernel_rfl) hy)
def Φ97_3 (L N:Nat):Tells:=(addO (Φ67_1 L N) 97 (f97_3.ent L N))
theorem Φ97_3_ok (L N:Nat):TellsOk Tryz.prog (Φ97_3 L N):=addO_ok (Φ67_1_ok L N) (f97_3.ok L N (Φ67_1_ok L N))
def f66_2.b' {R:Type} (L N:Nat) (k:Bool→Option R) (x0:LM) (x1:Int):Option R:=
 (f97_3 L N x0 x1).bind fun y0=>
 k (decide (y0≥(0:Int)))
def f66_2.b {R:Type} (L N:Nat) (k:Bool→Option R) (x0:LM) (x1:Int):Option R:=
 f66_2.b' L N k x0 x1
def f66_2 (L N:Nat) (x0:LM) (x1:Int):Option (Bool):=f66_2.b L N some x0 x1
def f66_2.ent (L N:Nat):=entRf [(.dat (.sl (.st 0))),(.fn 67 [(.imp i64 0)])] (.one .bool) fun d=>f66_2 L N d.1 d.2.1.1
noncomputable def E66_2 (L N:Nat):Env:={P:=Tryz.prog,ty:=tyOf,Φ:=(Φ97_3 L N),inl:=inlT,live:=lives,liveX:=livesX,L:=L,dp:=none,prom:=promT,heal:=healT,ren:=renT}
theorem f66_2.b_eq {R:Type} (L N:Nat) (κ:AV→Option R) (x0:LM) (x1:Int):
  evBody (E66_2 L N) (evCallI (E66_2 L N) 1 2000) 1000 66 Tryz.f66 [(.tv (.sl (.st 0)) x0),(.fn 67 [(.imp i64 x1 0)])] [] [] (finC (.one .bool) κ)
  =f66_2.b L N (fun a0=>κ (.tv .bool a0)) x0 x1:=by kernel_rfl
theorem f66_2.ok (L N:Nat) (hΦ:TellsOk Tryz.prog ((Φ97_3 L N))):EntOkO Tryz.prog 66 (f66_2.ent L N):=entRf_ok (E:=(E66_2 L N)) (dep:=1000) (f:=Tryz.f66) (sound_of hΦ) okP (callI_sound (sound_of hΦ) okP 1 2000) rfl rfl fun d _ hy=>(f66_2.b_eq L N (unR (.one .bool)) d.1 d.2.1.1).trans (Eq.trans (b:=f66_2.b L N some d.1 d.2.1.1) (by kernel_rfl) hy)
def Φ66_2 (L N:Nat):Tells:=(addO (Φ97_3 L N) 66 (f66_2.ent L N))
theorem Φ66_2_ok (L N:Nat):TellsOk Tryz.prog (Φ66_2 L N):=addO_ok (Φ97_3_ok L N) (f66_2.ok L N (Φ97_3_ok L N))
def f64_1.s1' {R:Type} (L N:Nat) (k1_e2:LLM→LI→Int→Int→Bool→LI→LI→LI→Option R) (rec1:LLM→LI→Int→Int→LI→Int→Int→Bool→LI→LI→LI→Int→Option R) (s10:LLM) (s11:LI) (s12:Int) (s13:Int) (s14:LI) (s15:Int) (s16:Int) (s17:Bool) (s18:LI) (s19:LI) (s20:LI) (s21:Int):Option R:=
 bif (decide (s16<s15)) then
  bif (decide (0≤s16)&&decide (s16<(s14.length:Int))) then
   bif s17 then
    rec1 s10 s11 s12 s13 s14 s15 (wi (s16+(1:Int))) true s18 s19 s20 s21
   else (f65 L N (Graph.mk s10) (listAt s14 (0:Int) s16.toNat)).bind fun y30=>
   bif y30 then
    bif (decide (0≤(listAt s14 (0:Int) s16.toNat))&&decide ((listAt s14 (0:Int) s16.toNat)<(s10.length:Int))) then
     (f66_2 L N (listAt s10 [] (listAt s14 (0:Int) s16.toNat).toNat) s21).bind fun y31=>
     rec1 s10 s11 s12 s13 s14 s15 (wi (s16+(1:Int))) (!y31) s18 s19 s20 s21
    else none
   else rec1 s10 s11 s12 s13 s14 s15 (wi (s16+(1:Int))) false s18 s19 s20 s21
  else none
 else k1_e2 s10 s11 s12 s13 s17 s18 s19 s20
def f64_1.s1 {R:Type} (L N:Nat) (k1_e2:LLM→LI→Int→Int→Bool→LI→LI→LI→Option R) (rec1:LLM→LI→Int→Int→LI→Int→Int→Bool→LI→LI→LI→Int→Option R) (s10:LLM) (s11:LI) (s12:Int) (s13:Int) (s14:LI) (s15:Int) (s16:Int) (s17:Bool) (s18:LI) (s19:LI) (s20:LI) (s21:Int):Option R:=
 f64_1.s1' L N k1_e2 rec1 s10 s11 s12 s13 s14 s15 s16 s17 s18 s19 s20 s21
def f64_1.l1 {R:Type} (L N:Nat) (k1_e2:LLM→LI→Int→Int→Bool→LI→LI→LI→Option R):Nat→LLM→LI→Int→Int→LI→Int→Int→Bool→LI→LI→LI→Int→Option R
 |0,_,_,_,_,_,_,_,_,_,_,_,_=>none
 |n+1,s10,s11,s12,s13,s14,s15,s16,s17,s18,s19,s20,s21=>f64_1.s1 L N k1_e2 (f64_1.l1 L N k1_e2 n) s10 s11 s12 s13 s14 s15 s16 s17 s18 s19 s20 s21
def f64_1.T1 (s10:LLM) (s11:LI) (s12:Int) (s13:Int) (s14:LI) (s15:Int) (s16:Int) (s17:Bool) (s18:LI) (s19:LI) (s20:LI) (s21:Int):T:=mkT 44 [(1,(.imp (.sl (.sl (.st 0))) s10 0)),(2,(.ptr 0 0)),(3,(.ptr 1003 0)),(6,(.ptr 1006 0)),(12,(.tv (.sl i64) s11)),(13,(.tv i64 s12)),(14,(.tv i64 s13)),(19,(.tv (.sl i64) s14)),(20,(.tv i64 s15)),(21,(.tv i64 s16))]++[.ptr 0 0]
def f64_1.H1 (s10:LLM) (s11:LI) (s12:Int) (s13:Int) (s14:LI) (s15:Int) (s16:Int) (s17:Bool) (s18:LI) (s19:LI) (s20:LI) (s21:Int):H:=[(0,(.box [(.tv .bool s17)])),(1003,(.box [(.tv (.sl i64) s18),(.tv (.sl i64) s19),(.tv (.sl i64) s20)])),(1006,(.box [(.tv i64 s21)]))]
def f64_1.T1_e2 (z22:LLM) (z23:LI) (z24:Int) (z25:Int) (z26:Bool) (z27:LI) (z28:LI) (z29:LI):T:=mkT 44 [(1,(.imp (.sl (.sl (.st 0))) z22 0)),(2,(.ptr 0 0)),(3,(.ptr 1003 0)),(12,(.tv (.sl i64) z23)),(13,(.tv i64 z24)),(14,(.tv i64 z25))]++[.ptr 0 0]
def f64_1.H1_e2 (z22:LLM) (z23:LI) (z24:Int) (z25:Int) (z26:Bool) (z27:LI) (z28:LI) (z29:LI):H:=[(0,(.box [(.tv .bool z26)])),(1003,(.box [(.tv (.sl i64) z27),(.tv (.sl i64) z28),(.tv (.sl i64) z29)]))]
def f64_1.p1_e2' {R:Type} (L N:Nat) (k0_e0:Bool→Option R) (rec0:LLM→LI→Int→Int→Bool→LI→LI→LI→Option R) (z22:LLM) (z23:LI) (z24:Int) (z25:Int) (z26:Bool) (z27:LI) (z28:LI) (z29:LI):Option R:=
 rec0 z22 z23 z24 (wi (z25+(1:Int))) z26 z27 z28 z29
def f64_1.p1_e2 {R:Type} (L N:Nat) (k0_e0:Bool→Option R) (rec0:LLM→LI→Int→Int→Bool→LI→LI→LI→Option R) (z22:LLM) (z23:LI) (z24:Int) (z25:Int) (z26:Bool) (z27:LI) (z28:LI) (z29:LI):Option R:=
 f64_1.p1_e2' L N k0_e0 rec0 z22 z23 z24 z25 z26 z27 z28 z29
def f64_1.s0' {R:Type} (L N:Nat) (k0_e0:Bool→Option R) (rec0:LLM→LI→Int→Int→Bool→LI→LI→LI→Option R) (w1:LLM→LI→Int→Int→LI→Int→Int→Bool→LI→LI→LI→Int→Option R) (s1:LLM) (s2:LI) (s3:Int) (s4:Int) (s5:Bool) (s6:LI) (s7:LI) (s8:LI):Option R:=
 bif (decide (s4<s3)) then
  bif (decide (0≤s4)&&decide (s4<(s2.length:Int))) then
   w1 s1 s2 s3 s4 s6 (s6.length:Int) (0:Int) s5 s6 s7 s8 (listAt s2 (0:Int) s4.toNat)
  else none
 else k0_e0 s5
def f64_1.s0 {R:Type} (L N:Nat) (k0_e0:Bool→Option R) (rec0:LLM→LI→Int→Int→Bool→LI→LI→LI→Option R) (s1:LLM) (s2:LI) (s3:Int) (s4:Int) (s5:Bool) (s6:LI) (s7:LI) (s8:LI):Option R:=
 f64_1.s0' L N k0_e0 rec0 (fun s10 s11 s12 s13 s14 s15 s16 s17 s18 s19 s20 s21=>f64_1.l1 L N (fun z22 z23 z24 z25 z26 z27 z28 z29=>f64_1.p1_e2 L N k0_e0 rec0 z22 z23 z24 z25 z26 z27 z28 z29) L s10 s11 s12 s13 s14 s15 s16 s17 s18 s19 s20 s21) s1 s2 s3 s4 s5 s6 s7 s8
def f64_1.l0 {R:Type} (L N:Nat) (k0_e0:Bool→Option R):Nat→LLM→LI→Int→Int→Bool→LI→LI→LI→Option R
 |0,_,_,_,_,_,_,_,_=>none
 |n+1,s1,s2,s3,s4,s5,s6,s7,s8=>f64_1.s0 L N k0_e0 (f64_1.l0 L N k0_e0 n) s1 s2 s3 s4 s5 s6 s7 s8
def f64_1.T0 (s1:LLM) (s2:LI) (s3:Int) (s4:Int) (s5:Bool) (s6:LI) (s7:LI) (s8:LI):T:=mkT 44 [(1,(.imp (.sl (.sl (.st 0))) s1 0)),(2,(.ptr 0 0)),(3,(.ptr 1003 0)),(12,(.tv (.sl i64) s2)),(13,(.tv i64 s3)),(14,(.tv i64 s4))]++[.ptr 0 0]
def f64_1.H0 (s1:LLM) (s2:LI) (s3:Int) (s4:Int) (s5:Bool) (s6:LI) (s7:LI) (s8:LI):H:=[(0,(.box [(.tv .bool s5)])),(1003,(.box [(.tv (.sl i64) s6),(.tv (.sl i64) s7),(.tv (.sl i64) s8)]))]
def f64_1.T0_e0 (z9:Bool):T:=mkT 44 [(2,(.ptr 0 0))]++[.ptr 0 0]
def f64_1.H0_e0 (z9:Bool):H:=[(0,(.box [(.tv .bool z9)]))]
def f64_1.p0_e0' {R:Type} (L N:Nat) (k:Bool→Bool→Option R) (z9:Bool):Option R:=
 k z9 z9
def f64_1.p0_e0 {R:Type} (L N:Nat) (k:Bool→Bool→Option R) (z9:Bool):Option R:=
 f64_1.p0_e0' L N k z9
def f64_1.b' {R:Type} (L N:Nat) (k:Bool→Bool→Option R) (w0:LLM→LI→Int→Int→Bool→LI→LI→LI→Option R) (c0:Bool) (x0:Duo) (x1:LLM):Option R:=
 (f53 L N (Graph.mk x1) x0.a).bind fun y0=>
 w0 x1 y0 (y0.length:Int) (0:Int) c0 x0.a x0.b x0.w
def f64_1.b {R:Type} (L N:Nat) (k:Bool→Bool→Option R) (c0:Bool) (x0:Duo) (x1:LLM):Option R:=
 f64_1.b' L N k (fun s1 s2 s3 s4 s5 s6 s7 s8=>f64_1.l0 L N (fun z9=>f64_1.p0_e0 L N k z9) L s1 s2 s3 s4 s5 s6 s7 s8) c0 x0 x1
def f64_1 (L N:Nat) (c0:Bool) (x0:Duo) (x1:LLM):Option (Bool×Bool):=f64_1.b L N (fun a0 a1=>some (a0,a1)) c0 x0 x1
def f64_1.ent (L N:Nat) (args:List AV) (vw:View) (_:Nat):Option Ans:=match mutD [.bool] [(.sh (.dat (.st 4))),(.sh (.imp (.sl (.sl (.st 0))) 0)),(.mut 0)] vw args with
 |some (o,d0,d,u)=>some ⟨Bool×Bool,f64_1 L N d0.1 d.1 d.2.1,fun y=>((.tv .bool y.1),u++[(o,some (.box [(.tv .bool y.2)]))],[])⟩
 |none=>none
noncomputable def E64_1 (L N:Nat):Env:={P:=Tryz.prog,ty:=tyOf,Φ:=(Φ66_2 L N),inl:=inlT,live:=lives,liveX:=livesX,L:=L,dp:=none,prom:=promT,heal:=healT,ren:=renT}
noncomputable def f64_1.c0:Code:=loopAt 0 (codeOf Tryz.f64)
noncomputable def f64_1.c1:Code:=loopAt 2 f64_1.c0
def f64_1.X1_e2 {R:Type} (κ:KX R):=fun z22 z23 z24 z25 z26 z27 z28 z29=>κ (.exit 2) (f64_1.T1_e2 z22 z23 z24 z25 z26 z27 z28 z29) (f64_1.H1_e2 z22 z23 z24 z25 z26 z27 z28 z29)
def f64_1.R1 {R:Type} (rec:KT R):=fun s10 s11 s12 s13 s14 s15 s16 s17 s18 s19 s20 s21=>rec (f64_1.T1 s10 s11 s12 s13 s14 s15 s16 s17 s18 s19 s20 s21) (f64_1.H1 s10 s11 s12 s13 s14 s15 s16 s17 s18 s19 s20 s21)
theorem f64_1.s1_eq {R:Type} (L N:Nat) (κ:KX R) (rec:KT R) (s10:LLM) (s11:LI) (s12:Int) (s13:Int) (s14:LI) (s15:Int) (s16:Int) (s17:Bool) (s18:LI) (s19:LI) (s20:LI) (s21:Int):
  evRd (E64_1 L N) (evCallI (E64_1 L N) 1 2000) 1000 64 44 2 f64_1.c1 κ rec (f64_1.T1 s10 s11 s12 s13 s14 s15 s16 s17 s18 s19 s20 s21) (f64_1.H1 s10 s11 s12 s13 s14 s15 s16 s17 s18 s19 s20 s21)
  =f64_1.s1 L N (f64_1.X1_e2 κ) (f64_1.R1 rec) s10 s11 s12 s13 s14 s15 s16 s17 s18 s19 s20 s21:=by kernel_rfl
theorem f64_1.l1_eq {R:Type} (L N:Nat) (κ:KX R):∀(n:Nat) (s10:LLM) (s11:LI) (s12:Int) (s13:Int) (s14:LI) (s15:Int) (s16:Int) (s17:Bool) (s18:LI) (s19:LI) (s20:LI) (s21:Int),
  evLp (E64_1 L N) (evCallI (E64_1 L N) 1 2000) 1000 64 44 2 f64_1.c1 κ n (f64_1.T1 s10 s11 s12 s13 s14 s15 s16 s17 s18 s19 s20 s21) (f64_1.H1 s10 s11 s12 s13 s14 s15 s16 s17 s18 s19 s20 s21)
  =f64_1.l1 L N (f64_1.X1_e2 κ) n s10 s11 s12 s13 s14 s15 s16 s17 s18 s19 s20 s21:=by
 intro n
 induction n with
 |zero=>intros;rfl
 |succ n ih=>
  intro s10 s11 s12 s13 s14 s15 s16 s17 s18 s19 s20 s21
  rw [evLp_succ,f64_1.s1_eq]
  delta f64_1.R1
  simp only [ih]
  rfl
def f64_1.X0_e0 {R:Type} (κ:KX R):=fun z9=>κ (.exit 0) (f64_1.T0_e0 z9) (f64_1.H0_e0 z9)
def f64_1.R0 {R:Type} (rec:KT R):=fun s1 s2 s3 s4 s5 s6 s7 s8=>rec (f64_1.T0 s1 s2 s3 s4 s5 s6 s7 s8) (f64_1.H0 s1 s2 s3 s4 s5 s6 s7 s8)
theorem f64_1.p1_e2_eq {R:Type} (L N:Nat) (κ:KX R) (rec:KT R) (z22:LLM) (z23:LI) (z24:Int) (z25:Int) (z26:Bool) (z27:LI) (z28:LI) (z29:LI):
  (contAt (E64_1 L N) (evCallI (E64_1 L N) 1 2000) 1000 64 44 2 f64_1.c0 (rdK (E64_1 L N) 1000 64 44 0 κ rec)) (.exit 2) (f64_1.T1_e2 z22 z23 z24 z25 z26 z27 z28 z29) (f64_1.H1_e2 z22 z23 z24 z25 z26 z27 z28 z29)
  =f64_1.p1_e2 L N (f64_1.X0_e0 κ) (f64_1.R0 rec) z22 z23 z24 z25 z26 z27 z28 z29:=by kernel_rfl
theorem f64_1.s0_eq {R:Type} (L N:Nat) (κ:KX R) (rec:KT R) (s1:LLM) (s2:LI) (s3:Int) (s4:Int) (s5:Bool) (s6:LI) (s7:LI) (s8:LI):
  evRd (E64_1 L N) (evCallI (E64_1 L N) 1 2000) 1000 64 44 0 f64_1.c0 κ rec (f64_1.T0 s1 s2 s3 s4 s5 s6 s7 s8) (f64_1.H0 s1 s2 s3 s4 s5 s6 s7 s8)
  =f64_1.s0 L N (f64_1.X0_e0 κ) (f64_1.R0 rec) s1 s2 s3 s4 s5 s6 s7 s8:=by
 refine Eq.trans (b:=f64_1.s0' L N (f64_1.X0_e0 κ) (f64_1.R0 rec) (fun s10 s11 s12 s13 s14 s15 s16 s17 s18 s19 s20 s21=>evLp (E64_1 L N) (evCallI (E64_1 L N) 1 2000) 1000 64 44 2 f64_1.c1 (contAt (E64_1 L N) (evCallI (E64_1 L N) 1 2000) 1000 64 44 2 f64_1.c0 (rdK (E64_1 L N) 1000 64 44 0 κ rec)) L (f64_1.T1 s10 s11 s12 s13 s14 s15 s16 s17 s18 s19 s20 s21) (f64_1.H1 s10 s11 s12 s13 s14 s15 s16 s17 s18 s19 s20 s21)) s1 s2 s3 s4 s5 s6 s7 s8) (by kernel_rfl) ?_
 unfold f64_1.s0
 simp only [f64_1.l1_eq]
 delta f64_1.X1_e2
 simp only [f64_1.p1_e2_eq]
theorem f64_1.l0_eq {R:Type} (L N:Nat) (κ:KX R):∀(n:Nat) (s1:LLM) (s2:LI) (s3:Int) (s4:Int) (s5:Bool) (s6:LI) (s7:LI) (s8:LI),
  evLp (E64_1 L N) (evCallI (E64_1 L N) 1 2000) 1000 64 44 0 f64_1.c0 κ n (f64_1.T0 s1 s2 s3 s4 s5 s6 s7 s8) (f64_1.H0 s1 s2 s3 s4 s5 s6 s7 s8)
  =f64_1.l0 L N (f64_1.X0_e0 κ) n s1 s2 s3 s4 s5 s6 s7 s8:=by
 intro n
 induction n with
 |zero=>intros;rfl
 |succ n ih=>
  intro s1 s2 s3 s4 s5 s6 s7 s8
  rw [evLp_succ,f64_1.s0_eq]
  delta f64_1.R0
  simp only [ih]
  rfl
theorem f64_1.p0_e0_eq {R:Type} (L N:Nat) (κ:AV→Dens [.bool]→Option R) (z9:Bool):
  (contAt (E64_1 L N) (evCallI (E64_1 L N) 1 2000) 1000 64 44 0 (codeOf Tryz.f64) (finK (E64_1 L N) 1000 Tryz.f64 (finM (.one .bool) [.bool] κ))) (.exit 0) (f64_1.T0_e0 z9) (f64_1.H0_e0 z9)
  =f64_1.p0_e0 L N (fun a0 a1=>κ (.tv .bool a0) (a1,())) z9:=by kernel_rfl
theorem f64_1.b_eq {R:Type} (L N:Nat) (κ:AV→Dens [.bool]→Option R) (c0:Bool) (x0:Duo) (x1:LLM):
  evBody (E64_1 L N) (evCallI (E64_1 L N) 1 2000) 1000 64 Tryz.f64 [(.tv (.st 4) x0),(.imp (.sl (.sl (.st 0))) x1 0),(.ptr 0 0)] [.ptr 0 0] [(0,(.box [(.tv .bool c0)]))] (finM (.one .bool) [.bool] κ)
  =f64_1.b L N (fun a0 a1=>κ (.tv .bool a0) (a1,())) c0 x0 x1:=by
 refine Eq.trans (b:=f64_1.b' L N (fun a0 a1=>κ (.tv .bool a0) (a1,())) (fun s1 s2 s3 s4 s5 s6 s7 s8=>evLp (E64_1 L N) (evCallI (E64_1 L N) 1 2000) 1000 64 44 0 f64_1.c0 (contAt (E64_1 L N) (evCallI (E64_1 L N) 1 2000) 1000 64 44 0 (codeOf Tryz.f64) (finK (E64_1 L N) 1000 Tryz.f64 (finM (.one .bool) [.bool] κ))) L (f64_1.T0 s1 s2 s3 s4 s5 s6 s7 s8) (f64_1.H0 s1 s2 s3 s4 s5 s6 s7 s8)) c0 x0 x1) (by kernel_rfl) ?_
 unfold f64_1.b
 simp only [f64_1.l0_eq]
 delta f64_1.X0_e0
 simp only [f64_1.p0_e0_eq]
theorem f64_1.ok (L N:Nat) (hΦ:TellsOk Tryz.prog ((Φ66_2 L N))):EntOkO Tryz.prog 64 (f64_1.ent L N):=by
 intro args vw site h a ha
 unfold f64_1.ent at ha
 split at ha
 ·rename_i o d0 d u hd
  obtain rfl:=Option.some.inj ha
  intro y hy hs
  obtain ⟨cs,ho,hd0,hr⟩:=mutD_some hd
  refine call_mut (y:=y) (dep:=1000) (v':=(.tv .bool y.1)) (d1:=(y.2,())) (E:=(E64_1 L N)) (ts:=[.bool]) (rs:=(.one .bool)) (κ:=(fun v d=>(unR (.one .bool) v).bind fun x=>some (x,d.1))) (sound_of hΦ) okP (callI_sound (sound_of hΦ) okP 1 2000) (f:=Tryz.f64) rfl hs ho hd0 hr ?_ (fun _ _ h=>by obtain ⟨x,h1,h2⟩:=unR_bind h;obtain rfl:=Option.some.inj h2;exact ⟨h1,rfl⟩) site
  exact (f64_1.b_eq L N (fun v d=>(unR (.one .bool) v).bind fun x=>some (x,d.1)) d0.1 d.1 d.2.1).trans (Eq.trans (b:=f64_1.b L N (fun a0 a1=>some (a0,a1)) d0.1 d.1 d.2.1) (by kernel_rfl) hy)
 ·cases ha
def Φ64_1 (L N:Nat):Tells:=(addO (Φ66_2 L N) 64 (f64_1.ent L N))
theorem Φ64_1_ok (L N:Nat):TellsOk Tryz.prog (Φ64_1 L N):=addO_ok (Φ66_2_ok L N) (f64_1.ok L N (Φ66_2_ok L N))
def f55_1.s1' {R:Type} (L N:Nat) (k1_e2:Int→LLM→Int→Bool→LLM→LLM→(List Duo)→(List (ByteArray×Bool))→Option R) (k1_r:Int→LLM→Bool→Int→Bool→LLM→LLM→(List Duo)→(List (ByteArray×Bool))→Option R) (rec1:Int→LLM→Int→LI→Int→Int→Bool→LLM→LLM→LI→LI→LI→(List Duo)→(List (ByteArray×Bool))→Option R) (s17:Int) (s18:LLM) (s19:Int) (s20:LI) (s21:Int) (s22:Int) (s23:Bool) (s24:LLM) (s25:LLM) (s26:LI) (s27:LI) (s28:LI) (s29:(List Duo)) (s30:(List (ByteArray×Bool))):Option R:=
 bif (decide (s22<s21)) then
  bif (decide (0≤s22)&&decide (s22<(s20.length:Int))) then
   (f54 L N (Graph.mk s24) s26 (listAt s20 (0:Int) s22.toNat)).bind fun y39=>
   (f54 L N (Graph.mk s25) s27 (listAt s20 (0:Int) s22.toNat)).bind fun y40=>
   ((fclone s28)).bind fun y41=>
   bif (decide (s28.length+([(listAt s20 (0:Int) s22.toNat)]:LI).length≤lim)) then
    bif ((y40.length:Int)==(0:Int)) then
     (f64_1 L N s23 (Duo.mk y39 y40 (s28++([(listAt s20 (0:Int) s22.toNat)]:LI))) s18).bind fun y42=>
     bif y42.1 then
      k1_r s17 s18 true s19 y42.2 s24 s25 s29 s30
     else rec1 s17 s18 s19 s20 s21 (wi (s22+(1:Int))) y42.2 s24 s25 s26 s27 s28 s29 s30
    else (f51 L N y39).bind fun y52=>
    (f51 L N y40).bind fun y53=>
    bif (decide (y52.size+y53.size≤4611686018427387904)) then
     bif ((mapFind .str .bool (y52++y53) s30).getD (Ty.dflt .bool)) then
      rec1 s17 s18 s19 s20 s21 (wi (s22+(1:Int))) s23 s24 s25 s26 s27 s28 s29 s30
     else bif (decide (s29.length+([(Duo.mk y39 y40 (s28++([(listAt s20 (0:Int) s22.toNat)]:LI)))]:(List Duo)).length≤lim)) then
      rec1 s17 s18 s19 s20 s21 (wi (s22+(1:Int))) s23 s24 s25 s26 s27 s28 (s29++([(Duo.mk y39 y40 (s28++([(listAt s20 (0:Int) s22.toNat)]:LI)))]:(List Duo))) (mapPut .str .bool (y52++y53) true s30)
     else none
    else none
   else none
  else none
 else k1_e2 s17 s18 s19 s23 s24 s25 s29 s30
def f55_1.s1 {R:Type} (L N:Nat) (k1_e2:Int→LLM→Int→Bool→LLM→LLM→(List Duo)→(List (ByteArray×Bool))→Option R) (k1_r:Int→LLM→Bool→Int→Bool→LLM→LLM→(List Duo)→(List (ByteArray×Bool))→Option R) (rec1:Int→LLM→Int→LI→Int→Int→Bool→LLM→LLM→LI→LI→LI→(List Duo)→(List (ByteArray×Bool))→Option R) (s17:Int) (s18:LLM) (s19:Int) (s20:LI) (s21:Int) (s22:Int) (s23:Bool) (s24:LLM) (s25:LLM) (s26:LI) (s27:LI) (s28:LI) (s29:(List Duo)) (s30:(List (ByteArray×Bool))):Option R:=
 f55_1.s1' L N k1_e2 k1_r rec1 s17 s18 s19 s20 s21 s22 s23 s24 s25 s26 s27 s28 s29 s30
def f55_1.l1 {R:Type} (L N:Nat) (k1_e2:Int→LLM→Int→Bool→LLM→LLM→(List Duo)→(List (ByteArray×Bool))→Option R) (k1_r:Int→LLM→Bool→Int→Bool→LLM→LLM→(List Duo)→(List (ByteArray×Bool))→Option R):Nat→Int→LLM→Int→LI→Int→Int→Bool→LLM→LLM→LI→LI→LI→(List Duo)→(List (ByteArray×Bool))→Option R
 |0,_,_,_,_,_,_,_,_,_,_,_,_,_,_=>none
 |n+1,s17,s18,s19,s20,s21,s22,s23,s24,s25,s26,s27,s28,s29,s30=>f55_1.s1 L N k1_e2 k1_r (f55_1.l1 L N k1_e2 k1_r n) s17 s18 s19 s20 s21 s22 s23 s24 s25 s26 s27 s28 s29 s30
def f55_1.T1 (s17:Int) (s18:LLM) (s19:Int) (s20:LI) (s21:Int) (s22:Int) (s23:Bool) (s24:LLM) (s25:LLM) (s26:LI) (s27:LI) (s28:LI) (s29:(List Duo)) (s30:(List (ByteArray×Bool))):T:=mkT 107 [(2,(.tv i64 s17)),(3,(.fn 64 [(.imp (.sl (.sl (.st 0))) s18 0),(.ptr 0 0)])),(4,(.ptr 1004 0)),(5,(.ptr 1005 0)),(9,(.row 1022)),(10,(.mp 1023)),(11,(.tv i64 s19)),(12,(.ptr 1012 0)),(60,(.tv (.sl i64) s20)),(61,(.tv i64 s21)),(62,(.tv i64 s22))]++[.ptr 0 0]
def f55_1.H1 (s17:Int) (s18:LLM) (s19:Int) (s20:LI) (s21:Int) (s22:Int) (s23:Bool) (s24:LLM) (s25:LLM) (s26:LI) (s27:LI) (s28:LI) (s29:(List Duo)) (s30:(List (ByteArray×Bool))):H:=[(0,(.box [(.tv .bool s23)])),(1004,(.box [(.tv (.sl (.sl (.st 0))) s24)])),(1005,(.box [(.tv (.sl (.sl (.st 0))) s25)])),(1012,(.box [(.tv (.sl i64) s26),(.tv (.sl i64) s27),(.tv (.sl i64) s28)])),(1022,(.row 77 (.st 4) s29)),(1023,(.map .str .bool s30))]
def f55_1.T1_e2 (z31:Int) (z32:LLM) (z33:Int) (z34:Bool) (z35:LLM) (z36:LLM) (z37:(List Duo)) (z38:(List (ByteArray×Bool))):T:=mkT 107 [(2,(.tv i64 z31)),(3,(.fn 64 [(.imp (.sl (.sl (.st 0))) z32 0),(.ptr 0 0)])),(4,(.ptr 1004 0)),(5,(.ptr 1005 0)),(9,(.row 1022)),(10,(.mp 1023)),(11,(.tv i64 z33))]++[.ptr 0 0]
def f55_1.H1_e2 (z31:Int) (z32:LLM) (z33:Int) (z34:Bool) (z35:LLM) (z36:LLM) (z37:(List Duo)) (z38:(List (ByteArray×Bool))):H:=[(0,(.box [(.tv .bool z34)])),(1004,(.box [(.tv (.sl (.sl (.st 0))) z35)])),(1005,(.box [(.tv (.sl (.sl (.st 0))) z36)])),(1022,(.row 77 (.st 4) z37)),(1023,(.map .str .bool z38))]
def f55_1.T1_r (z43:Int) (z44:LLM) (z45:Bool) (z46:Int) (z47:Bool) (z48:LLM) (z49:LLM) (z50:(List Duo)) (z51:(List (ByteArray×Bool))):T:=mkT 107 [(2,(.tv i64 z43)),(3,(.fn 64 [(.imp (.sl (.sl (.st 0))) z44 0),(.ptr 0 0)])),(4,(.ptr 1004 0)),(5,(.ptr 1005 0)),(8,(.tv .bool z45)),(9,(.row 1022)),(10,(.mp 1023)),(11,(.tv i64 z46))]++[.ptr 0 0]
def f55_1.H1_r (z43:Int) (z44:LLM) (z45:Bool) (z46:Int) (z47:Bool) (z48:LLM) (z49:LLM) (z50:(List Duo)) (z51:(List (ByteArray×Bool))):H:=[(0,(.box [(.tv .bool z47)])),(1004,(.box [(.tv (.sl (.sl (.st 0))) z48)])),(1005,(.box [(.tv (.sl (.sl (.st 0))) z49)])),(1022,(.row 77 (.st 4) z50)),(1023,(.map .str .bool z51))]
def f55_1.p1_e2' {R:Type} (L N:Nat) (k0_e0:Bool→Option R) (k0_r:Bool→Bool→Option R) (rec0:Int→LLM→Int→Bool→LLM→LLM→(List Duo)→(List (ByteArray×Bool))→Option R) (z31:Int) (z32:LLM) (z33:Int) (z34:Bool) (z35:LLM) (z36:LLM) (z37:(List Duo)) (z38:(List (ByteArray×Bool))):Option R:=
 rec0 z31 z32 (wi (z33+(1:Int))) z34 z35 z36 z37 z38
def f55_1.p1_e2 {R:Type} (L N:Nat) (k0_e0:Bool→Option R) (k0_r:Bool→Bool→Option R) (rec0:Int→LLM→Int→Bool→LLM→LLM→(List Duo)→(List (ByteArray×Bool))→Option R) (z31:Int) (z32:LLM) (z33:Int) (z34:Bool) (z35:LLM) (z36:LLM) (z37:(List Duo)) (z38:(List (ByteArray×Bool))):Option R:=
 f55_1.p1_e2' L N k0_e0 k0_r rec0 z31 z32 z33 z34 z35 z36 z37 z38
def f55_1.p1_r' {R:Type} (L N:Nat) (k0_e0:Bool→Option R) (k0_r:Bool→Bool→Option R) (rec0:Int→LLM→Int→Bool→LLM→LLM→(List Duo)→(List (ByteArray×Bool))→Option R) (z43:Int) (z44:LLM) (z45:Bool) (z46:Int) (z47:Bool) (z48:LLM) (z49:LLM) (z50:(List Duo)) (z51:(List (ByteArray×Bool))):Option R:=
 k0_r z45 z47
def f55_1.p1_r {R:Type} (L N:Nat) (k0_e0:Bool→Option R) (k0_r:Bool→Bool→Option R) (rec0:Int→LLM→Int→Bool→LLM→LLM→(List Duo)→(List (ByteArray×Bool))→Option R) (z43:Int) (z44:LLM) (z45:Bool) (z46:Int) (z47:Bool) (z48:LLM) (z49:LLM) (z50:(List Duo)) (z51:(List (ByteArray×Bool))):Option R:=
 f55_1.p1_r' L N k0_e0 k0_r rec0 z43 z44 z45 z46 z47 z48 z49 z50 z51
def f55_1.s0' {R:Type} (L N:Nat) (k0_e0:Bool→Option R) (k0_r:Bool→Bool→Option R) (rec0:Int→LLM→Int→Bool→LLM→LLM→(List Duo)→(List (ByteArray×Bool))→Option R) (w1:Int→LLM→Int→LI→Int→Int→Bool→LLM→LLM→LI→LI→LI→(List Duo)→(List (ByteArray×Bool))→Option R) (s4:Int) (s5:LLM) (s6:Int) (s7:Bool) (s8:LLM) (s9:LLM) (s10:(List Duo)) (s11:(List (ByteArray×Bool))):Option R:=
 bif (decide (s6<(s10.length:Int))) then
  bif (decide (0≤s6)&&decide (s6<(s10.length:Int))) then
   bif (decide ((s10.length:Int)>(400:Int))) then
    k0_r false s7
   else (f64_1 L N s7 (Duo.mk ((listAt s10 (Ty.dflt (.st 4)) s6.toNat).a) ((listAt s10 (Ty.dflt (.st 4)) s6.toNat).b) ((listAt s10 (Ty.dflt (.st 4)) s6.toNat).w)) s5).bind fun y15=>
   bif y15.1 then
    k0_r true y15.2
   else bif ((((listAt s10 (Ty.dflt (.st 4)) s6.toNat).w).length:Int)==s4) then
    rec0 s4 s5 (wi (s6+(1:Int))) y15.2 s8 s9 s10 s11
   else (f53 L N (Graph.mk s8) ((listAt s10 (Ty.dflt (.st 4)) s6.toNat).a)).bind fun y16=>
   w1 s4 s5 s6 y16 (y16.length:Int) (0:Int) y15.2 s8 s9 ((listAt s10 (Ty.dflt (.st 4)) s6.toNat).a) ((listAt s10 (Ty.dflt (.st 4)) s6.toNat).b) ((listAt s10 (Ty.dflt (.st 4)) s6.toNat).w) s10 s11
  else none
 else k0_e0 s7
def f55_1.s0 {R:Type} (L N:Nat) (k0_e0:Bool→Option R) (k0_r:Bool→Bool→Option R) (rec0:Int→LLM→Int→Bool→LLM→LLM→(List Duo)→(List (ByteArray×Bool))→Option R) (s4:Int) (s5:LLM) (s6:Int) (s7:Bool) (s8:LLM) (s9:LLM) (s10:(List Duo)) (s11:(List (ByteArray×Bool))):Option R:=
 f55_1.s0' L N k0_e0 k0_r rec0 (fun s17 s18 s19 s20 s21 s22 s23 s24 s25 s26 s27 s28 s29 s30=>f55_1.l1 L N (fun z31 z32 z33 z34 z35 z36 z37 z38=>f55_1.p1_e2 L N k0_e0 k0_r rec0 z31 z32 z33 z34 z35 z36 z37 z38) (fun z43 z44 z45 z46 z47 z48 z49 z50 z51=>f55_1.p1_r L N k0_e0 k0_r rec0 z43 z44 z45 z46 z47 z48 z49 z50 z51) L s17 s18 s19 s20 s21 s22 s23 s24 s25 s26 s27 s28 s29 s30) s4 s5 s6 s7 s8 s9 s10 s11
def f55_1.l0 {R:Type} (L N:Nat) (k0_e0:Bool→Option R) (k0_r:Bool→Bool→Option R):Nat→Int→LLM→Int→Bool→LLM→LLM→(List Duo)→(List (ByteArray×Bool))→Option R
 |0,_,_,_,_,_,_,_,_=>none
 |n+1,s4,s5,s6,s7,s8,s9,s10,s11=>f55_1.s0 L N k0_e0 k0_r (f55_1.l0 L N k0_e0 k0_r n) s4 s5 s6 s7 s8 s9 s10 s11
def f55_1.T0 (s4:Int) (s5:LLM) (s6:Int) (s7:Bool) (s8:LLM) (s9:LLM) (s10:(List Duo)) (s11:(List (ByteArray×Bool))):T:=mkT 107 [(2,(.tv i64 s4)),(3,(.fn 64 [(.imp (.sl (.sl (.st 0))) s5 0),(.ptr 0 0)])),(4,(.ptr 1004 0)),(5,(.ptr 1005 0)),(9,(.row 1022)),(10,(.mp 1023)),(11,(.tv i64 s6))]++[.ptr 0 0]
def f55_1.H0 (s4:Int) (s5:LLM) (s6:Int) (s7:Bool) (s8:LLM) (s9:LLM) (s10:(List Duo)) (s11:(List (ByteArray×Bool))):H:=[(0,(.box [(.tv .bool s7)])),(1004,(.box [(.tv (.sl (.sl (.st 0))) s8)])),(1005,(.box [(.tv (.sl (.sl (.st 0))) s9)])),(1022,(.row 77 (.st 4) s10)),(1023,(.map .str .bool s11))]
def f55_1.T0_e0 (z12:Bool):T:=mkT 107 []++[.ptr 0 0]
def f55_1.H0_e0 (z12:Bool):H:=[(0,(.box [(.tv .bool z12)]))]
def f55_1.T0_r (z13:Bool) (z14:Bool):T:=mkT 107 [(8,(.tv .bool z13))]++[.ptr 0 0]
def f55_1.H0_r (z13:Bool) (z14:Bool):H:=[(0,(.box [(.tv .bool z14)]))]
def f55_1.p0_e0' {R:Type} (L N:Nat) (k:Bool→Bool→Option R) (z12:Bool):Option R:=
 k true z12
def f55_1.p0_e0 {R:Type} (L N:Nat) (k:Bool→Bool→Option R) (z12:Bool):Option R:=
 f55_1.p0_e0' L N k z12
def f55_1.p0_r' {R:Type} (L N:Nat) (k:Bool→Bool→Option R) (z13:Bool) (z14:Bool):Option R:=
 k z13 z14
def f55_1.p0_r {R:Type} (L N:Nat) (k:Bool→Bool→Option R) (z13:Bool) (z14:Bool):Option R:=
 f55_1.p0_r' L N k z13 z14
def f55_1.b' {R:Type} (L N:Nat) (k:Bool→Bool→Option R) (w0:Int→LLM→Int→Bool→LLM→LLM→(List Duo)→(List (ByteArray×Bool))→Option R) (c0:Bool) (x0:Graph) (x1:Graph) (x2:Int) (x3:LLM):Option R:=
 (f50 L N (Graph.mk x0.moves) []).bind fun y0=>
 (f50 L N (Graph.mk x1.moves) []).bind fun y1=>
 bif (decide (0≤(0:Int))&&decide ((0:Int)<(([(Duo.mk y0 y1 [])]:(List Duo)).length:Int))) then
  (f51 L N ((listAt ([(Duo.mk y0 y1 [])]:(List Duo)) (Ty.dflt (.st 4)) (0:Int).toNat).a)).bind fun y2=>
  bif (decide (0≤(0:Int))&&decide ((0:Int)<(([(Duo.mk y0 y1 [])]:(List Duo)).length:Int))) then
   (f51 L N ((listAt ([(Duo.mk y0 y1 [])]:(List Duo)) (Ty.dflt (.st 4)) (0:Int).toNat).b)).bind fun y3=>
   bif (decide (y2.size+y3.size≤4611686018427387904)) then
    w0 x2 x3 (0:Int) c0 x0.moves x1.moves ([(Duo.mk y0 y1 [])]:(List Duo)) (mapPut .str .bool (y2++y3) true ([]:(List (ByteArray×Bool))))
   else none
  else none
 else none
def f55_1.b {R:Type} (L N:Nat) (k:Bool→Bool→Option R) (c0:Bool) (x0:Graph) (x1:Graph) (x2:Int) (x3:LLM):Option R:=
 f55_1.b' L N k (fun s4 s5 s6 s7 s8 s9 s10 s11=>f55_1.l0 L N (fun z12=>f55_1.p0_e0 L N k z12) (fun z13 z14=>f55_1.p0_r L N k z13 z14) L s4 s5 s6 s7 s8 s9 s10 s11) c0 x0 x1 x2 x3
def f55_1 (L N:Nat) (c0:Bool) (x0:Graph) (x1:Graph) (x2:Int) (x3:LLM):Option (Bool×Bool):=f55_1.b L N (fun a0 a1=>some (a0,a1)) c0 x0 x1 x2 x3
def f55_1.ent (L N:Nat) (args:List AV) (vw:View) (_:Nat):Option Ans:=match mutD [.bool] [(.sh (.dat (.st 2))),(.sh (.dat (.st 2))),(.sh (.dat i64)),(.fn 64 [(.sh (.imp (.sl (.sl (.st 0))) 0)),(.mut 0)])] vw args with
 |some (o,d0,d,u)=>some ⟨Bool×Bool,f55_1 L N d0.1 d.1 d.2.1 d.2.2.1 d.2.2.2.1.1,fun y=>((.tv .bool y.1),u++[(o,some (.box [(.tv .bool y.2)]))],[])⟩
 |none=>none
noncomputable def E55_1 (L N:Nat):Env:={P:=Tryz.prog,ty:=tyOf,Φ:=(Φ64_1 L N),inl:=inlT,live:=lives,liveX:=livesX,L:=L,dp:=none,prom:=promT,heal:=healT,ren:=renT,fresh:=fun s=>Nat.beq s 1081}
noncomputable def f55_1.c0:Code:=loopAt 0 (codeOf Tryz.f55)
noncomputable def f55_1.c1:Code:=loopAt 2 f55_1.c0
def f55_1.X1_e2 {R:Type} (κ:KX R):=fun z31 z32 z33 z34 z35 z36 z37 z38=>κ (.exit 2) (f55_1.T1_e2 z31 z32 z33 z34 z35 z36 z37 z38) (f55_1.H1_e2 z31 z32 z33 z34 z35 z36 z37 z38)
def f55_1.X1_r {R:Type} (κ:KX R):=fun z43 z44 z45 z46 z47 z48 z49 z50 z51=>κ .ret (f55_1.T1_r z43 z44 z45 z46 z47 z48 z49 z50 z51) (f55_1.H1_r z43 z44 z45 z46 z47 z48 z49 z50 z51)
def f55_1.R1 {R:Type} (rec:KT R):=fun s17 s18 s19 s20 s21 s22 s23 s24 s25 s26 s27 s28 s29 s30=>rec (f55_1.T1 s17 s18 s19 s20 s21 s22 s23 s24 s25 s26 s27 s28 s29 s30) (f55_1.H1 s17 s18 s19 s20 s21 s22 s23 s24 s25 s26 s27 s28 s29 s30)
theorem f55_1.s1_eq {R:Type} (L N:Nat) (κ:KX R) (rec:KT R) (s17:Int) (s18:LLM) (s19:Int) (s20:LI) (s21:Int) (s22:Int) (s23:Bool) (s24:LLM) (s25:LLM) (s26:LI) (s27:LI) (s28:LI) (s29:(List Duo)) (s30:(List (ByteArray×Bool))):
  evRd (E55_1 L N) (evCallI (E55_1 L N) 1 2000) 1000 55 107 2 f55_1.c1 κ rec (f55_1.T1 s17 s18 s19 s20 s21 s22 s23 s24 s25 s26 s27 s28 s29 s30) (f55_1.H1 s17 s18 s19 s20 s21 s22 s23 s24 s25 s26 s27 s28 s29 s30)
  =f55_1.s1 L N (f55_1.X1_e2 κ) (f55_1.X1_r κ) (f55_1.R1 rec) s17 s18 s19 s20 s21 s22 s23 s24 s25 s26 s27 s28 s29 s30:=by kernel_rfl
theorem f55_1.l1_eq {R:Type} (L N:Nat) (κ:KX R):∀(n:Nat) (s17:Int) (s18:LLM) (s19:Int) (s20:LI) (s21:Int) (s22:Int) (s23:Bool) (s24:LLM) (s25:LLM) (s26:LI) (s27:LI) (s28:LI) (s29:(List Duo)) (s30:(List (ByteArray×Bool))),
  evLp (E55_1 L N) (evCallI (E55_1 L N) 1 2000) 1000 55 107 2 f55_1.c1 κ n (f55_1.T1 s17 s18 s19 s20 s21 s22 s23 s24 s25 s26 s27 s28 s29 s30) (f55_1.H1 s17 s18 s19 s20 s21 s22 s23 s24 s25 s26 s27 s28 s29 s30)
  =f55_1.l1 L N (f55_1.X1_e2 κ) (f55_1.X1_r κ) n s17 s18 s19 s20 s21 s22 s23 s24 s25 s26 s27 s28 s29 s30:=by
 intro n
 induction n with
 |zero=>intros;rfl
 |succ n ih=>
  intro s17 s18 s19 s20 s21 s22 s23 s24 s25 s26 s27 s28 s29 s30
  rw [evLp_succ,f55_1.s1_eq]
  delta f55_1.R1
  simp only [ih]
  rfl
def f55_1.X0_e0 {R:Type} (κ:KX R):=fun z12=>κ (.exit 0) (f55_1.T0_e0 z12) (f55_1.H0_e0 z12)
def f55_1.X0_r {R:Type} (κ:KX R):=fun z13 z14=>κ .ret (f55_1.T0_r z13 z14) (f55_1.H0_r z13 z14)
def f55_1.R0 {R:Type} (rec:KT R):=fun s4 s5 s6 s7 s8 s9 s10 s11=>rec (f55_1.T0 s4 s5 s6 s7 s8 s9 s10 s11) (f55_1.H0 s4 s5 s6 s7 s8 s9 s10 s11)
theorem f55_1.p1_e2_eq {R:Type} (L N:Nat) (κ:KX R) (rec:KT R) (z31:Int) (z32:LLM) (z33:Int) (z34:Bool) (z35:LLM) (z36:LLM) (z37:(List Duo)) (z38:(List (ByteArray×Bool))):
  (contAt (E55_1 L N) (evCallI (E55_1 L N) 1 2000) 1000 55 107 2 f55_1.c0 (rdK (E55_1 L N) 1000 55 107 0 κ rec)) (.exit 2) (f55_1.T1_e2 z31 z32 z33 z34 z35 z36 z37 z38) (f55_1.H1_e2 z31 z32 z33 z34 z35 z36 z37 z38)
  =f55_1.p1_e2 L N (f55_1.X0_e0 κ) (f55_1.X0_r κ) (f55_1.R0 rec) z31 z32 z33 z34 z35 z36 z37 z38:=by kernel_rfl
theorem f55_1.p1_r_eq {R:Type} (L N:Nat) (κ:KX R) (rec:KT R) (z43:Int) (z44:LLM) (z45:Bool) (z46:Int) (z47:Bool) (z48:LLM) (z49:LLM) (z50:(List Duo)) (z51:(List (ByteArray×Bool))):
  (contAt (E55_1 L N) (evCallI (E55_1 L N) 1 2000) 1000 55 107 2 f55_1.c0 (rdK (E55_1 L N) 1000 55 107 0 κ rec)) .ret (f55_1.T1_r z43 z44 z45 z46 z47 z48 z49 z50 z51) (f55_1.H1_r z43 z44 z45 z46 z47 z48 z49 z50 z51)
  =f55_1.p1_r L N (f55_1.X0_e0 κ) (f55_1.X0_r κ) (f55_1.R0 rec) z43 z44 z45 z46 z47 z48 z49 z50 z51:=by kernel_rfl
theorem f55_1.s0_eq {R:Type} (L N:Nat) (κ:KX R) (rec:KT R) (s4:Int) (s5:LLM) (s6:Int) (s7:Bool) (s8:LLM) (s9:LLM) (s10:(List Duo)) (s11:(List (ByteArray×Bool))):
  evRd (E55_1 L N) (evCallI (E55_1 L N) 1 2000) 1000 55 107 0 f55_1.c0 κ rec (f55_1.T0 s4 s5 s6 s7 s8 s9 s10 s11) (f55_1.H0 s4 s5 s6 s7 s8 s9 s10 s11)
  =f55_1.s0 L N (f55_1.X0_e0 κ) (f55_1.X0_r κ) (f55_1.R0 rec) s4 s5 s6 s7 s8 s9 s10 s11:=by
 refine Eq.trans (b:=f55_1.s0' L N (f55_1.X0_e0 κ) (f55_1.X0_r κ) (f55_1.R0 rec) (fun s17 s18 s19 s20 s21 s22 s23 s24 s25 s26 s27 s28 s29 s30=>evLp (E55_1 L N) (evCallI (E55_1 L N) 1 2000) 1000 55 107 2 f55_1.c1 (contAt (E55_1 L N) (evCallI (E55_1 L N) 1 2000) 1000 55 107 2 f55_1.c0 (rdK (E55_1 L N) 1000 55 107 0 κ rec)) L (f55_1.T1 s17 s18 s19 s20 s21 s22 s23 s24 s25 s26 s27 s28 s29 s30) (f55_1.H1 s17 s18 s19 s20 s21 s22 s23 s24 s25 s26 s27 s28 s29 s30)) s4 s5 s6 s7 s8 s9 s10 s11) (by kernel_rfl) ?_
 unfold f55_1.s0
 simp only [f55_1.l1_eq]
 delta f55_1.X1_e2 f55_1.X1_r
 simp only [f55_1.p1_e2_eq,f55_1.p1_r_eq]
theorem f55_1.l0_eq {R:Type} (L N:Nat) (κ:KX R):∀(n:Nat) (s4:Int) (s5:LLM) (s6:Int) (s7:Bool) (s8:LLM) (s9:LLM) (s10:(List Duo)) (s11:(List (ByteArray×Bool))),
  evLp (E55_1 L N) (evCallI (E55_1 L N) 1 2000) 1000 55 107 0 f55_1.c0 κ n (f55_1.T0 s4 s5 s6 s7 s8 s9 s10 s11) (f55_1.H0 s4 s5 s6 s7 s8 s9 s10 s11)
  =f55_1.l0 L N (f55_1.X0_e0 κ) (f55_1.X0_r κ) n s4 s5 s6 s7 s8 s9 s10 s11:=by
 intro n
 induction n with
 |zero=>intros;rfl
 |succ n ih=>
  intro s4 s5 s6 s7 s8 s9 s10 s11
  rw [evLp_succ,f55_1.s0_eq]
  delta f55_1.R0
  simp only [ih]
  rfl
theorem f55_1.p0_e0_eq {R:Type} (L N:Nat) (κ:AV→Dens [.bool]→Option R) (z12:Bool):
  (contAt (E55_1 L N) (evCallI (E55_1 L N) 1 2000) 1000 55 107 0 (codeOf Tryz.f55) (finK (E55_1 L N) 1000 Tryz.f55 (finM (.one .bool) [.bool] κ))) (.exit 0) (f55_1.T0_e0 z12) (f55_1.H0_e0 z12)
  =f55_1.p0_e0 L N (fun a0 a1=>κ (.tv .bool a0) (a1,())) z12:=by kernel_rfl
theorem f55_1.p0_r_eq {R:Type} (L N:Nat) (κ:AV→Dens [.bool]→Option R) (z13:Bool) (z14:Bool):
  (contAt (E55_1 L N) (evCallI (E55_1 L N) 1 2000) 1000 55 107 0 (codeOf Tryz.f55) (finK (E55_1 L N) 1000 Tryz.f55 (finM (.one .bool) [.bool] κ))) .ret (f55_1.T0_r z13 z14) (f55_1.H0_r z13 z14)
  =f55_1.p0_r L N (fun a0 a1=>κ (.tv .bool a0) (a1,())) z13 z14:=by kernel_rfl
theorem f55_1.b_eq {R:Type} (L N:Nat) (κ:AV→Dens [.bool]→Option R) (c0:Bool) (x0:Graph) (x1:Graph) (x2:Int) (x3:LLM):
  evBody (E55_1 L N) (evCallI (E55_1 L N) 1 2000) 1000 55 Tryz.f55 [(.tv (.st 2) x0),(.tv (.st 2) x1),(.tv i64 x2),(.fn 64 [(.imp (.sl (.sl (.st 0))) x3 0),(.ptr 0 0)])] [.ptr 0 0] [(0,(.box [(.tv .bool c0)]))] (finM (.one .bool) [.bool] κ)
  =f55_1.b L N (fun a0 a1=>κ (.tv .bool a0) (a1,())) c0 x0 x1 x2 x3:=by
 refine Eq.trans (b:=f55_1.b' L N (fun a0 a1=>κ (.tv .bool a0) (a1,())) (fun s4 s5 s6 s7 s8 s9 s10 s11=>evLp (E55_1 L N) (evCallI (E55_1 L N) 1 2000) 1000 55 107 0 f55_1.c0 (contAt (E55_1 L N) (evCallI (E55_1 L N) 1 2000) 1000 55 107 0 (codeOf Tryz.f55) (finK (E55_1 L N) 1000 Tryz.f55 (finM (.one .bool) [.bool] κ))) L (f55_1.T0 s4 s5 s6 s7 s8 s9 s10 s11) (f55_1.H0 s4 s5 s6 s7 s8 s9 s10 s11)) c0 x0 x1 x2 x3) (by kernel_rfl) ?_
 unfold f55_1.b
 simp only [f55_1.l0_eq]
 delta f55_1.X0_e0 f55_1.X0_r
 simp only [f55_1.p0_e0_eq,f55_1.p0_r_eq]
theorem f55_1.ok (L N:Nat) (hΦ:TellsOk Tryz.prog ((Φ64_1 L N))):EntOkO Tryz.prog 55 (f55_1.ent L N):=by
 intro args vw site h a ha
 unfold f55_1.ent at ha
 split at ha
 ·rename_i o d0 d u hd
  obtain rfl:=Option.some.inj ha
  intro y hy hs
  obtain ⟨cs,ho,hd0,hr⟩:=mutD_some hd
  refine call_mut (y:=y) (dep:=1000) (v':=(.tv .bool y.1)) (d1:=(y.2,())) (E:=(E55_1 L N)) (ts:=[.bool]) (rs:=(.one .bool)) (κ:=(fun v d=>(unR (.one .bool) v).bind fun x=>some (x,d.1))) (sound_of hΦ) okP (callI_sound (sound_of hΦ) okP 1 2000) (f:=Tryz.f55) rfl hs ho hd0 hr ?_ (fun _ _ h=>by obtain ⟨x,h1,h2⟩:=unR_bind h;obtain rfl:=Option.some.inj h2;exact ⟨h1,rfl⟩) site
  exact (f55_1.b_eq L N (fun v d=>(unR (.one .bool) v).bind fun x=>some (x,d.1)) d0.1 d.1 d.2.1 d.2.2.1 d.2.2.2.1.1).trans (Eq.trans (b:=f55_1.b L N (fun a0 a1=>some (a0,a1)) d0.1 d.1 d.2.1 d.2.2.1 d.2.2.2.1.1) (by kernel_rfl) hy)
 ·cases ha
def Φ55_1 (L N:Nat):Tells:=(addO (Φ64_1 L N) 55 (f55_1.ent L N))
theorem Φ55_1_ok (L N:Nat):TellsOk Tryz.prog (Φ55_1 L N):=addO_ok (Φ64_1_ok L N) (f55_1.ok L N (Φ64_1_ok L N))
def f26.j0' {R:Type} (L N:Nat) (k:Bool→Bool→Option R) (v4:LLM):Option R:=
 (f55_1 L N false (Graph.mk v4) (Graph.mk v4) (-1:Int) v4).bind fun y5=>
 bif (!y5.1) then
  k false false
 else k (!y5.2) true
def f26.b' {R:Type} (L N:Nat) (k:Bool→Bool→Option R) (x0:Graph):Option R:=
 (f8 L N (Graph.mk x0.moves)).bind fun y0=>
 bif (!y0) then
  k false false
 else (f63 L N (Graph.mk x0.moves)).bind fun y1=>
 bif y1 then
  k false false
 else f26.j0' L N k x0.moves
def f26.b {R:Type} (L N:Nat) (k:Bool→Bool→Option R) (x0:Graph):Option R:=
 f26.b' L N k x0
def f26 (L N:Nat) (x0:Graph):Option (Bool×Bool):=f26.b L N (fun a0 a1=>some (a0,a1)) x0
def f26.ent (L N:Nat):=entRo [(.st 2)] (.many [.bool,.bool]) fun d=>f26 L N d.1
noncomputable def E26 (L N:Nat):Env:={P:=Tryz.prog,ty:=tyOf,Φ:=(Φ55_1 L N),inl:=inlT,live:=lives,liveX:=livesX,L:=L,dp:=none,prom:=promT,heal:=healT,ren:=renT}
theorem f26.b_eq {R:Type} (L N:Nat) (κ:AV→Option R) (x0:Graph):
  evBody (E26 L N) (evCallI (E26 L N) 1 2000) 1000 26 Tryz.f26 [(.tv (.st 2) x0)] [] [] (finC (.many [.bool,.bool]) κ)
  =f26.b L N (fun a0 a1=>κ (.tup [(.tv .bool a0),(.tv .bool a1)])) x0:=by kernel_rfl
theorem f26.ok (L N:Nat) (hΦ:TellsOk Tryz.prog ((Φ55_1 L N))):EntOk Tryz.prog 26 (f26.ent L N):=entRo_ok (E:=(E26 L N)) (dep:=1000) (f:=Tryz.f26) (sound_of hΦ) okP (callI_sound (sound_of hΦ) okP 1 2000) rfl rfl fun d _ hy=>(f26.b_eq L N (unR (.many [.bool,.bool])) d.1).trans (Eq.trans (b:=f26.b L N (fun a0 a1=>some (a0,a1)) d.1) (by kernel_rfl) hy)
def Φ26 (L N:Nat):Tells:=(addT (Φ55_1 L N) 26 (f26.ent L N))
theorem Φ26_ok (L N:Nat):TellsOk Tryz.prog (Φ26 L N):=addT_ok (Φ55_1_ok L N) (f26.ok L N (Φ55_1_ok L N))
def f9.s1' {R:Type} (L N:Nat) (k1_e2:Int→LLM→Option R) (k1_r:Bool→Int→LLM→Option R) (rec1:Int→Int→LLM→Option R) (s3:Int) (s4:Int) (s5:LLM):Option R:=
 bif (decide (0≤s3)&&decide (s3<(s5.length:Int))) then
  bif (decide (s4<((listAt s5 [] s3.toNat).length:Int))) then
   bif (decide (0≤s3)&&decide (s3<(s5.length:Int))) then
    bif (decide (0≤s4)&&decide (s4<((listAt s5 [] s3.toNat).length:Int))) then
     (f33 L N ((listAt (listAt s5 [] s3.toNat) (Ty.dflt (.st 0)) s4.toNat).act)).bind fun y8=>
     bif (!y8) then
      k1_r false s3 s5
     else (f32 L N ((listAt (listAt s5 [] s3.toNat) (Ty.dflt (.st 0)) s4.toNat).to) (0:Int) (wi ((s5.length:Int)-(1:Int)))).bind fun y9=>
     bif (!y9) then
      k1_r false s3 s5
     else bif (decide (s4>(0:Int))) then
      bif (decide (0≤s3)&&decide (s3<(s5.length:Int))) then
       bif (decide (0≤(wi (s4-(1:Int))))&&decide ((wi (s4-(1:Int)))<((listAt s5 [] s3.toNat).length:Int))) then
        (f34 L N (listAt (listAt s5 [] s3.toNat) (Ty.dflt (.st 0)) (wi (s4-(1:Int))).toNat) (Move.mk ((listAt (listAt s5 [] s3.toNat) (Ty.dflt (.st 0)) s4.toNat).act) ((listAt (listAt s5 [] s3.toNat) (Ty.dflt (.st 0)) s4.toNat).to))).bind fun y10=>
        bif (!y10) then
         k1_r false s3 s5
        else rec1 s3 (wi (s4+(1:Int))) s5
       else none
      else none
     else rec1 s3 (wi (s4+(1:Int))) s5
    else none
   else none
  else k1_e2 s3 s5
 else none
def f9.s1 {R:Type} (L N:Nat) (k1_e2:Int→LLM→Option R) (k1_r:Bool→Int→LLM→Option R) (rec1:Int→Int→LLM→Option R) (s3:Int) (s4:Int) (s5:LLM):Option R:=
 f9.s1' L N k1_e2 k1_r rec1 s3 s4 s5
def f9.l1 {R:Type} (L N:Nat) (k1_e2:Int→LLM→Option R) (k1_r:Bool→Int→LLM→Option R):Nat→Int→Int→LLM→Option R
 |0,_,_,_=>none
 |n+1,s3,s4,s5=>f9.s1 L N k1_e2 k1_r (f9.l1 L N k1_e2 k1_r n) s3 s4 s5
def f9.T1 (s3:Int) (s4:Int) (s5:LLM):T:=mkT 68 [(1,(.ptr 1001 0)),(3,(.tv i64 s3)),(4,(.tv i64 s4))]
def f9.H1 (s3:Int) (s4:Int) (s5:LLM):H:=[(1001,(.box [(.tv (.sl (.sl (.st 0))) s5)]))]
def f9.T1_e2 (z6:Int) (z7:LLM):T:=mkT 68 [(1,(.ptr 1001 0)),(3,(.tv i64 z6))]
def f9.H1_e2 (z6:Int) (z7:LLM):H:=[(1001,(.box [(.tv (.sl (.sl (.st 0))) z7)]))]
def f9.T1_r (z15:Bool) (z16:Int) (z17:LLM):T:=mkT 68 [(1,(.ptr 1001 0)),(2,(.tv .bool z15)),(3,(.tv i64 z16))]
def f9.H1_r (z15:Bool) (z16:Int) (z17:LLM):H:=[(1001,(.box [(.tv (.sl (.sl (.st 0))) z17)]))]
def f9.p1_e2' {R:Type} (L N:Nat) (k0_e0:Option R) (k0_r:Bool→Option R) (rec0:Int→LLM→Option R) (z6:Int) (z7:LLM):Option R:=
 rec0 (wi (z6+(1:Int))) z7
def f9.p1_e2 {R:Type} (L N:Nat) (k0_e0:Option R) (k0_r:Bool→Option R) (rec0:Int→LLM→Option R) (z6:Int) (z7:LLM):Option R:=
 f9.p1_e2' L N k0_e0 k0_r rec0 z6 z7
def f9.p1_r' {R:Type} (L N:Nat) (k0_e0:Option R) (k0_r:Bool→Option R) (rec0:Int→LLM→Option R) (z15:Bool) (z16:Int) (z17:LLM):Option R:=
 k0_r z15
def f9.p1_r {R:Type} (L N:Nat) (k0_e0:Option R) (k0_r:Bool→Option R) (rec0:Int→LLM→Option R) (z15:Bool) (z16:Int) (z17:LLM):Option R:=
 f9.p1_r' L N k0_e0 k0_r rec0 z15 z16 z17
def f9.s0' {R:Type} (L N:Nat) (k0_e0:Option R) (k0_r:Bool→Option R) (rec0:Int→LLM→Option R) (w1:Int→Int→LLM→Option R) (s1:Int) (s2:LLM):Option R:=
 bif (decide (s1<(s2.length:Int))) then
  w1 s1 (0:Int) s2
 else k0_e0
def f9.s0 {R:Type} (L N:Nat) (k0_e0:Option R) (k0_r:Bool→Option R) (rec0:Int→LLM→Option R) (s1:Int) (s2:LLM):Option R:=
 f9.s0' L N k0_e0 k0_r rec0 (fun s3 s4 s5=>f9.l1 L N (fun z6 z7=>f9.p1_e2 L N k0_e0 k0_r rec0 z6 z7) (fun z15 z16 z17=>f9.p1_r L N k0_e0 k0_r rec0 z15 z16 z17) L s3 s4 s5) s1 s2
def f9.l0 {R:Type} (L N:Nat) (k0_e0:Option R) (k0_r:Bool→Option R):Nat→Int→LLM→Option R
 |0,_,_=>none
 |n+1,s1,s2=>f9.s0 L N k0_e0 k0_r (f9.l0 L N k0_e0 k0_r n) s1 s2
def f9.T0 (s1:Int) (s2:LLM):T:=mkT 68 [(1,(.ptr 1001 0)),(3,(.tv i64 s1))]
def f9.H0 (s1:Int) (s2:LLM):H:=[(1001,(.box [(.tv (.sl (.sl (.st 0))) s2)]))]
def f9.T0_e0:T:=mkT 68 []
def f9.H0_e0:H:=[]
def f9.T0_r (z21:Bool):T:=mkT 68 [(2,(.tv .bool z21))]
def f9.H0_r (z21:Bool):H:=[]
def f9.p0_e0' {R:Type} (L N:Nat) (k:Bool→Option R):Option R:=
 k true
def f9.p0_e0 {R:Type} (L N:Nat) (k:Bool→Option R):Option R:=
 f9.p0_e0' L N k
def f9.p0_r' {R:Type} (L N:Nat) (k:Bool→Option R) (z21:Bool):Option R:=
 k z21
def f9.p0_r {R:Type} (L N:Nat) (k:Bool→Option R) (z21:Bool):Option R:=
 f9.p0_r' L N k z21
def f9.b' {R:Type} (L N:Nat) (k:Bool→Option R) (w0:Int→LLM→Option R) (x0:Graph):Option R:=
 (f32 L N (x0.moves.length:Int) (1:Int) (60:Int)).bind fun y0=>
 bif (!y0) then
  k false
 else w0 (0:Int) x0.moves
def f9.b {R:Type} (L N:Nat) (k:Bool→Option R) (x0:Graph):Option R:=
 f9.b' L N k (fun s1 s2=>f9.l0 L N (f9.p0_e0 L N k) (fun z21=>f9.p0_r L N k z21) L s1 s2) x0
def f9 (L N:Nat) (x0:Graph):Option (Bool):=f9.b L N some x0
def f9.ent (L N:Nat):=entRo [(.st 2)] (.one .bool) fun d=>f9 L N d.1
noncomputable def E9 (L N:Nat):Env:={P:=Tryz.prog,ty:=tyOf,Φ:=(Φ26 L N),inl:=inlT,live:=lives,liveX:=livesX,L:=L,dp:=none,prom:=promT,heal:=healT,ren:=renT}
noncomputable def f9.c0:Code:=loopAt 0 (codeOf Tryz.f9)
noncomputable def f9.c1:Code:=loopAt 2 f9.c0
def f9.X1_e2 {R:Type} (κ:KX R):=fun z6 z7=>κ (.exit 2) (f9.T1_e2 z6 z7) (f9.H1_e2 z6 z7)
def f9.X1_r {R:Type} (κ:KX R):=fun z15 z16 z17=>κ .ret (f9.T1_r z15 z16 z17) (f9.H1_r z15 z16 z17)
def f9.R1 {R:Type} (rec:KT R):=fun s3 s4 s5=>rec (f9.T1 s3 s4 s5) (f9.H1 s3 s4 s5)
theorem f9.s1_eq {R:Type} (L N:Nat) (κ:KX R) (rec:KT R) (s3:Int) (s4:Int) (s5:LLM):
  evRd (E9 L N) (evCallI (E9 L N) 1 2000) 1000 9 68 2 f9.c1 κ rec (f9.T1 s3 s4 s5) (f9.H1 s3 s4 s5)
  =f9.s1 L N (f9.X1_e2 κ) (f9.X1_r κ) (f9.R1 rec) s3 s4 s5:=by kernel_rfl
theorem f9.l1_eq {R:Type} (L N:Nat) (κ:KX R):∀(n:Nat) (s3:Int) (s4:Int) (s5:LLM),
  evLp (E9 L N) (evCallI (E9 L N) 1 2000) 1000 9 68 2 f9.c1 κ n (f9.T1 s3 s4 s5) (f9.H1 s3 s4 s5)
  =f9.l1 L N (f9.X1_e2 κ) (f9.X1_r κ) n s3 s4 s5:=by
 intro n
 induction n with
 |zero=>intros;rfl
 |succ n ih=>
  intro s3 s4 s5
  rw [evLp_succ,f9.s1_eq]
  delta f9.R1
  simp only [ih]
  rfl
def f9.X0_e0 {R:Type} (κ:KX R):=κ (.exit 0) f9.T0_e0 f9.H0_e0
def f9.X0_r {R:Type} (κ:KX R):=fun z21=>κ .ret (f9.T0_r z21) (f9.H0_r z21)
def f9.R0 {R:Type} (rec:KT R):=fun s1 s2=>rec (f9.T0 s1 s2) (f9.H0 s1 s2)
theorem f9.p1_e2_eq {R:Type} (L N:Nat) (κ:KX R) (rec:KT R) (z6:Int) (z7:LLM):
  (contAt (E9 L N) (evCallI (E9 L N) 1 2000) 1000 9 68 2 f9.c0 (rdK (E9 L N) 1000 9 68 0 κ rec)) (.exit 2) (f9.T1_e2 z6 z7) (f9.H1_e2 z6 z7)
  =f9.p1_e2 L N (f9.X0_e0 κ) (f9.X0_r κ) (f9.R0 rec) z6 z7:=by kernel_rfl
theorem f9.p1_r_eq {R:Type} (L N:Nat) (κ:KX R) (rec:KT R) (z15:Bool) (z16:Int) (z17:LLM):
  (contAt (E9 L N) (evCallI (E9 L N) 1 2000) 1000 9 68 2 f9.c0 (rdK (E9 L N) 1000 9 68 0 κ rec)) .ret (f9.T1_r z15 z16 z17) (f9.H1_r z15 z16 z17)
  =f9.p1_r L N (f9.X0_e0 κ) (f9.X0_r κ) (f9.R0 rec) z15 z16 z17:=by kernel_rfl
theorem f9.s0_eq {R:Type} (L N:Nat) (κ:KX R) (rec:KT R) (s1:Int) (s2:LLM):
  evRd (E9 L N) (evCallI (E9 L N) 1 2000) 1000 9 68 0 f9.c0 κ rec (f9.T0 s1 s2) (f9.H0 s1 s2)
  =f9.s0 L N (f9.X0_e0 κ) (f9.X0_r κ) (f9.R0 rec) s1 s2:=by
 refine Eq.trans (b:=f9.s0' L N (f9.X0_e0 κ) (f9.X0_r κ) (f9.R0 rec) (fun s3 s4 s5=>evLp (E9 L N) (evCallI (E9 L N) 1 2000) 1000 9 68 2 f9.c1 (contAt (E9 L N) (evCallI (E9 L N) 1 2000) 1000 9 68 2 f9.c0 (rdK (E9 L N) 1000 9 68 0 κ rec)) L (f9.T1 s3 s4 s5) (f9.H1 s3 s4 s5)) s1 s2) (by kernel_rfl) ?_
 unfold f9.s0
 simp only [f9.l1_eq]
 delta f9.X1_e2 f9.X1_r
 simp only [f9.p1_e2_eq,f9.p1_r_eq]
theorem f9.l0_eq {R:Type} (L N:Nat) (κ:KX R):∀(n:Nat) (s1:Int) (s2:LLM),
  evLp (E9 L N) (evCallI (E9 L N) 1 2000) 1000 9 68 0 f9.c0 κ n (f9.T0 s1 s2) (f9.H0 s1 s2)
  =f9.l0 L N (f9.X0_e0 κ) (f9.X0_r κ) n s1 s2:=by
 intro n
 induction n with
 |zero=>intros;rfl
 |succ n ih=>
  intro s1 s2
  rw [evLp_succ,f9.s0_eq]
  delta f9.R0
  simp only [ih]
  rfl
theorem f9.p0_e0_eq {R:Type} (L N:Nat) (κ:AV→Option R):
  (contAt (E9 L N) (evCallI (E9 L N) 1 2000) 1000 9 68 0 (codeOf Tryz.f9) (finK (E9 L N) 1000 Tryz.f9 (finC (.one .bool) κ))) (.exit 0) f9.T0_e0 f9.H0_e0
  =f9.p0_e0 L N (fun a0=>κ (.tv .bool a0)):=by kernel_rfl
theorem f9.p0_r_eq {R:Type} (L N:Nat) (κ:AV→Option R) (z21:Bool):
  (contAt (E9 L N) (evCallI (E9 L N) 1 2000) 1000 9 68 0 (codeOf Tryz.f9) (finK (E9 L N) 1000 Tryz.f9 (finC (.one .bool) κ))) .ret (f9.T0_r z21) (f9.H0_r z21)
  =f9.p0_r L N (fun a0=>κ (.tv .bool a0)) z21:=by kernel_rfl
theorem f9.b_eq {R:Type} (L N:Nat) (κ:AV→Option R) (x0:Graph):
  evBody (E9 L N) (evCallI (E9 L N) 1 2000) 1000 9 Tryz.f9 [(.tv (.st 2) x0)] [] [] (finC (.one .bool) κ)
  =f9.b L N (fun a0=>κ (.tv .bool a0)) x0:=by
 refine Eq.trans (b:=f9.b' L N (fun a0=>κ (.tv .bool a0)) (fun s1 s2=>evLp (E9 L N) (evCallI (E9 L N) 1 2000) 1000 9 68 0 f9.c0 (contAt (E9 L N) (evCallI (E9 L N) 1 2000) 1000 9 68 0 (codeOf Tryz.f9) (finK (E9 L N) 1000 Tryz.f9 (finC (.one .bool) κ))) L (f9.T0 s1 s2) (f9.H0 s1 s2)) x0) (by kernel_rfl) ?_
 unfold f9.b
 simp only [f9.l0_eq]
 delta f9.X0_e0 f9.X0_r
 simp only [f9.p0_e0_eq,f9.p0_r_eq]
theorem f9.ok (L N:Nat) (hΦ:TellsOk Tryz.prog ((Φ26 L N))):EntOk Tryz.prog 9 (f9.ent L N):=entRo_ok (E:=(E9 L N)) (dep:=1000) (f:=Tryz.f9) (sound_of hΦ) okP (callI_sound (sound_of hΦ) okP 1 2000) rfl rfl fun d _ hy=>(f9.b_eq L N (unR (.one .bool)) d.1).trans (Eq.trans (b:=f9.b L N some d.1) (by kernel_rfl) hy)
def Φ9 (L N:Nat):Tells:=(addT (Φ26 L N) 9 (f9.ent L N))
theorem Φ9_ok (L N:Nat):TellsOk Tryz.prog (Φ9 L N):=addT_ok (Φ26_ok L N) (f9.ok L N (Φ26_ok L N))
def f89.j0' {R:Type} (L N:Nat) (k2_e4:Bool→Int→LLM→LB→Option R) (rec2:Bool→Int→Int→LLM→LB→Option R) (v20:Bool) (v21:Int) (v22:Int) (v23:Bool) (v24:LLM) (v25:Int) (v26:Int) (v27:LB):Option R:=
 bif v23 then
  bif (decide (0≤v26)&&decide (v26<(v27.length:Int))) then
   rec2 true v21 (wi (v22+(1:Int))) v24 (v27.set v26.toNat true)
  else none
 else rec2 v20 v21 (wi (v22+(1:Int))) v24 v27
def f89.s2' {R:Type} (L N:Nat) (k2_e4:Bool→Int→LLM→LB→Option R) (rec2:Bool→Int→Int→LLM→LB→Option R) (s11:Bool) (s12:Int) (s13:Int) (s14:LLM) (s15:LB):Option R:=
 bif (decide (0≤s12)&&decide (s12<(s14.length:Int))) then
  bif (decide (s13<((listAt s14 [] s12.toNat).length:Int))) then
   bif (decide (0≤s12)&&decide (s12<(s14.length:Int))) then
    bif (decide (0≤s13)&&decide (s13<((listAt s14 [] s12.toNat).length:Int))) then
     bif (decide (0≤s12)&&decide (s12<(s15.length:Int))) then
      bif (listAt s15 false s12.toNat) then
       bif ((listAt (listAt s14 [] s12.toNat) (Ty.dflt (.st 0)) s13.toNat).act==(0:Int)) then
        bif (decide (0≤(listAt (listAt s14 [] s12.toNat) (Ty.dflt (.st 0)) s13.toNat).to)&&decide ((listAt (listAt s14 [] s12.toNat) (Ty.dflt (.st 0)) s13.toNat).to<(s15.length:Int))) then
         f89.j0' L N k2_e4 rec2 s11 s12 s13 (!(listAt s15 false ((listAt (listAt s14 [] s12.toNat) (Ty.dflt (.st 0)) s13.toNat).to).toNat)) s14 ((listAt (listAt s14 [] s12.toNat) (Ty.dflt (.st 0)) s13.toNat).act) ((listAt (listAt s14 [] s12.toNat) (Ty.dflt (.st 0)) s13.toNat).to) s15
        else none
       else f89.j0' L N k2_e4 rec2 s11 s12 s13 false s14 ((listAt (listAt s14 [] s12.toNat) (Ty.dflt (.st 0)) s13.toNat).act) ((listAt (listAt s14 [] s12.toNat) (Ty.dflt (.st 0)) s13.toNat).to) s15
      else f89.j0' L N k2_e4 rec2 s11 s12 s13 false s14 ((listAt (listAt s14 [] s12.toNat) (Ty.dflt (.st 0)) s13.toNat).act) ((listAt (listAt s14 [] s12.toNat) (Ty.dflt (.st 0)) s13.toNat).to) s15
     else none
    else none
   else none
  else k2_e4 s11 s12 s14 s15
 else none
def f89.s2 {R:Type} (L N:Nat) (k2_e4:Bool→Int→LLM→LB→Option R) (rec2:Bool→Int→Int→LLM→LB→Option R) (s11:Bool) (s12:Int) (s13:Int) (s14:LLM) (s15:LB):Option R:=
 f89.s2' L N k2_e4 rec2 s11 s12 s13 s14 s15
def f89.l2 {R:Type} (L N:Nat) (k2_e4:Bool→Int→LLM→LB→Option R):Nat→Bool→Int→Int→LLM→LB→Option R
 |0,_,_,_,_,_=>none
 |n+1,s11,s12,s13,s14,s15=>f89.s2 L N k2_e4 (f89.l2 L N k2_e4 n) s11 s12 s13 s14 s15
def f89.T2 (s11:Bool) (s12:Int) (s13:Int) (s14:LLM) (s15:LB):T:=mkT 60 [(2,(.ptr 1002 0)),(5,(.row 1010)),(6,(.tv .bool s11)),(7,(.tv i64 s12)),(8,(.tv i64 s13))]
def f89.H2 (s11:Bool) (s12:Int) (s13:Int) (s14:LLM) (s15:LB):H:=[(1002,(.box [(.tv (.sl (.sl (.st 0))) s14)])),(1010,(.row 4 .bool s15))]
def f89.T2_e4 (z16:Bool) (z17:Int) (z18:LLM) (z19:LB):T:=mkT 60 [(2,(.ptr 1002 0)),(5,(.row 1010)),(6,(.tv .bool z16)),(7,(.tv i64 z17))]
def f89.H2_e4 (z16:Bool) (z17:Int) (z18:LLM) (z19:LB):H:=[(1002,(.box [(.tv (.sl (.sl (.st 0))) z18)])),(1010,(.row 4 .bool z19))]
def f89.p2_e4' {R:Type} (L N:Nat) (k1_e2:Bool→LLM→LB→Option R) (rec1:Bool→Int→LLM→LB→Option R) (z16:Bool) (z17:Int) (z18:LLM) (z19:LB):Option R:=
 rec1 z16 (wi (z17+(1:Int))) z18 z19
def f89.p2_e4 {R:Type} (L N:Nat) (k1_e2:Bool→LLM→LB→Option R) (rec1:Bool→Int→LLM→LB→Option R) (z16:Bool) (z17:Int) (z18:LLM) (z19:LB):Option R:=
 f89.p2_e4' L N k1_e2 rec1 z16 z17 z18 z19
def f89.s1' {R:Type} (L N:Nat) (k1_e2:Bool→LLM→LB→Option R) (rec1:Bool→Int→LLM→LB→Option R) (w2:Bool→Int→Int→LLM→LB→Option R) (s4:Bool) (s5:Int) (s6:LLM) (s7:LB):Option R:=
 bif (decide (s5<(s7.length:Int))) then
  w2 s4 s5 (0:Int) s6 s7
 else k1_e2 s4 s6 s7
def f89.s1 {R:Type} (L N:Nat) (k1_e2:Bool→LLM→LB→Option R) (rec1:Bool→Int→LLM→LB→Option R) (s4:Bool) (s5:Int) (s6:LLM) (s7:LB):Option R:=
 f89.s1' L N k1_e2 rec1 (fun s11 s12 s13 s14 s15=>f89.l2 L N (fun z16 z17 z18 z19=>f89.p2_e4 L N k1_e2 rec1 z16 z17 z18 z19) L s11 s12 s13 s14 s15) s4 s5 s6 s7
def f89.l1 {R:Type} (L N:Nat) (k1_e2:Bool→LLM→LB→Option R):Nat→Bool→Int→LLM→LB→Option R
 |0,_,_,_,_=>none
 |n+1,s4,s5,s6,s7=>f89.s1 L N k1_e2 (f89.l1 L N k1_e2 n) s4 s5 s6 s7
def f89.T1 (s4:Bool) (s5:Int) (s6:LLM) (s7:LB):T:=mkT 60 [(2,(.ptr 1002 0)),(5,(.row 1010)),(6,(.tv .bool s4)),(7,(.tv i64 s5))]
def f89.H1 (s4:Bool) (s5:Int) (s6:LLM) (s7:LB):H:=[(1002,(.box [(.tv (.sl (.sl (.st 0))) s6)])),(1010,(.row 4 .bool s7))]
def f89.T1_e2 (z8:Bool) (z9:LLM) (z10:LB):T:=mkT 60 [(2,(.ptr 1002 0)),(5,(.row 1010)),(6,(.tv .bool z8))]
def f89.H1_e2 (z8:Bool) (z9:LLM) (z10:LB):H:=[(1002,(.box [(.tv (.sl (.sl (.st 0))) z9)])),(1010,(.row 4 .bool z10))]
def f89.p1_e2' {R:Type} (L N:Nat) (k0_e0:LB→Option R) (rec0:Bool→LLM→LB→Option R) (z8:Bool) (z9:LLM) (z10:LB):Option R:=
 rec0 z8 z9 z10
def f89.p1_e2 {R:Type} (L N:Nat) (k0_e0:LB→Option R) (rec0:Bool→LLM→LB→Option R) (z8:Bool) (z9:LLM) (z10:LB):Option R:=
 f89.p1_e2' L N k0_e0 rec0 z8 z9 z10
def f89.s0' {R:Type} (L N:Nat) (k0_e0:LB→Option R) (rec0:Bool→LLM→LB→Option R) (w1:Bool→Int→LLM→LB→Option R) (s0:Bool) (s1:LLM) (s2:LB):Option R:=
 bif s0 then
  w1 false (0:Int) s1 s2
 else k0_e0 s2
def f89.s0 {R:Type} (L N:Nat) (k0_e0:LB→Option R) (rec0:Bool→LLM→LB→Option R) (s0:Bool) (s1:LLM) (s2:LB):Option R:=
 f89.s0' L N k0_e0 rec0 (fun s4 s5 s6 s7=>f89.l1 L N (fun z8 z9 z10=>f89.p1_e2 L N k0_e0 rec0 z8 z9 z10) L s4 s5 s6 s7) s0 s1 s2
def f89.l0 {R:Type} (L N:Nat) (k0_e0:LB→Option R):Nat→Bool→LLM→LB→Option R
 |0,_,_,_=>none
 |n+1,s0,s1,s2=>f89.s0 L N k0_e0 (f89.l0 L N k0_e0 n) s0 s1 s2
def f89.T0 (s0:Bool) (s1:LLM) (s2:LB):T:=mkT 60 [(2,(.ptr 1002 0)),(5,(.row 1010)),(6,(.tv .bool s0))]
def f89.H0 (s0:Bool) (s1:LLM) (s2:LB):H:=[(1002,(.box [(.tv (.sl (.sl (.st 0))) s1)])),(1010,(.row 4 .bool s2))]
def f89.T0_e0 (z3:LB):T:=mkT 60 [(5,(.row 1010))]
def f89.H0_e0 (z3:LB):H:=[(1010,(.row 4 .bool z3))]
def f89.p0_e0' {R:Type} (L N:Nat) (k:LB→Option R) (z3:LB):Option R:=
 k z3
def f89.p0_e0 {R:Type} (L N:Nat) (k:LB→Option R) (z3:LB):Option R:=
 f89.p0_e0' L N k z3
def f89.b' {R:Type} (L N:Nat) (k:LB→Option R) (w0:Bool→LLM→LB→Option R) (x0:Graph) (x1:LB):Option R:=
 bif (decide (([]:LB).length+x1.length≤lim)) then
  w0 true x0.moves (([]:LB)++x1)
 else none
def f89.b {R:Type} (L N:Nat) (k:LB→Option R) (x0:Graph) (x1:LB):Option R:=
 f89.b' L N k (fun s0 s1 s2=>f89.l0 L N (fun z3=>f89.p0_e0 L N k z3) L s0 s1 s2) x0 x1
def f89 (L N:Nat) (x0:Graph) (x1:LB):Option (LB):=f89.b L N some x0 x1
def f89.ent (L N:Nat):=entDa [(.st 2),(.sl .bool)] (.one (.sl .bool)) fun d=>f89 L N d.1 d.2.1
noncomputable def E89 (L N:Nat):Env:={P:=Tryz.prog,ty:=tyOf,Φ:=(Φ9 L N),inl:=inlT,live:=lives,liveX:=livesX,L:=L,dp:=none,prom:=promT,heal:=healT,ren:=renT}
noncomputable def f89.c0:Code:=loopAt 0 (codeOf Tryz.f89)
noncomputable def f89.c1:Code:=loopAt 2 f89.c0
noncomputable def f89.c2:Code:=loopAt 4 f89.c1
def f89.X2_e4 {R:Type} (κ:KX R):=fun z16 z17 z18 z19=>κ (.exit 4) (f89.T2_e4 z16 z17 z18 z19) (f89.H2_e4 z16 z17 z18 z19)
def f89.R2 {R:Type} (rec:KT R):=fun s11 s12 s13 s14 s15=>rec (f89.T2 s11 s12 s13 s14 s15) (f89.H2 s11 s12 s13 s14 s15)
theorem f89.s2_eq {R:Type} (L N:Nat) (κ:KX R) (rec:KT R) (s11:Bool) (s12:Int) (s13:Int) (s14:LLM) (s15:LB):
  evRd (E89 L N) (evCallI (E89 L N) 1 2000) 1000 89 60 4 f89.c2 κ rec (f89.T2 s11 s12 s13 s14 s15) (f89.H2 s11 s12 s13 s14 s15)
  =f89.s2 L N (f89.X2_e4 κ) (f89.R2 rec) s11 s12 s13 s14 s15:=by kernel_rfl
theorem f89.l2_eq {R:Type} (L N:Nat) (κ:KX R):∀(n:Nat) (s11:Bool) (s12:Int) (s13:Int) (s14:LLM) (s15:LB),
  evLp (E89 L N) (evCallI (E89 L N) 1 2000) 1000 89 60 4 f89.c2 κ n (f89.T2 s11 s12 s13 s14 s15) (f89.H2 s11 s12 s13 s14 s15)
  =f89.l2 L N (f89.X2_e4 κ) n s11 s12 s13 s14 s15:=by
 intro n
 induction n with
 |zero=>intros;rfl
 |succ n ih=>
  intro s11 s12 s13 s14 s15
  rw [evLp_succ,f89.s2_eq]
  delta f89.R2
  simp only [ih]
  rfl
def f89.X1_e2 {R:Type} (κ:KX R):=fun z8 z9 z10=>κ (.exit 2) (f89.T1_e2 z8 z9 z10) (f89.H1_e2 z8 z9 z10)
def f89.R1 {R:Type} (rec:KT R):=fun s4 s5 s6 s7=>rec (f89.T1 s4 s5 s6 s7) (f89.H1 s4 s5 s6 s7)
theorem f89.p2_e4_eq {R:Type} (L N:Nat) (κ:KX R) (rec:KT R) (z16:Bool) (z17:Int) (z18:LLM) (z19:LB):
  (contAt (E89 L N) (evCallI (E89 L N) 1 2000) 1000 89 60 4 f89.c1 (rdK (E89 L N) 1000 89 60 2 κ rec)) (.exit 4) (f89.T2_e4 z16 z17 z18 z19) (f89.H2_e4 z16 z17 z18 z19)
  =f89.p2_e4 L N (f89.X1_e2 κ) (f89.R1 rec) z16 z17 z18 z19:=by kernel_rfl
theorem f89.s1_eq {R:Type} (L N:Nat) (κ:KX R) (rec:KT R) (s4:Bool) (s5:Int) (s6:LLM) (s7:LB):
  evRd (E89 L N) (evCallI (E89 L N) 1 2000) 1000 89 60 2 f89.c1 κ rec (f89.T1 s4 s5 s6 s7) (f89.H1 s4 s5 s6 s7)
  =f89.s1 L N (f89.X1_e2 κ) (f89.R1 rec) s4 s5 s6 s7:=by
 refine Eq.trans (b:=f89.s1' L N (f89.X1_e2 κ) (f89.R1 rec) (fun s11 s12 s13 s14 s15=>evLp (E89 L N) (evCallI (E89 L N) 1 2000) 1000 89 60 4 f89.c2 (contAt (E89 L N) (evCallI (E89 L N) 1 2000) 1000 89 60 4 f89.c1 (rdK (E89 L N) 1000 89 60 2 κ rec)) L (f89.T2 s11 s12 s13 s14 s15) (f89.H2 s11 s12 s13 s14 s15)) s4 s5 s6 s7) (by kernel_rfl) ?_
 unfold f89.s1
 simp only [f89.l2_eq]
 delta f89.X2_e4
 simp only [f89.p2_e4_eq]
theorem f89.l1_eq {R:Type} (L N:Nat) (κ:KX R):∀(n:Nat) (s4:Bool) (s5:Int) (s6:LLM) (s7:LB),
  evLp (E89 L N) (evCallI (E89 L N) 1 2000) 1000 89 60 2 f89.c1 κ n (f89.T1 s4 s5 s6 s7) (f89.H1 s4 s5 s6 s7)
  =f89.l1 L N (f89.X1_e2 κ) n s4 s5 s6 s7:=by
 intro n
 induction n with
 |zero=>intros;rfl
 |succ n ih=>
  intro s4 s5 s6 s7
  rw [evLp_succ,f89.s1_eq]
  delta f89.R1
  simp only [ih]
  rfl
def f89.X0_e0 {R:Type} (κ:KX R):=fun z3=>κ (.exit 0) (f89.T0_e0 z3) (f89.H0_e0 z3)
def f89.R0 {R:Type} (rec:KT R):=fun s0 s1 s2=>rec (f89.T0 s0 s1 s2) (f89.H0 s0 s1 s2)
theorem f89.p1_e2_eq {R:Type} (L N:Nat) (κ:KX R) (rec:KT R) (z8:Bool) (z9:LLM) (z10:LB):
  (contAt (E89 L N) (evCallI (E89 L N) 1 2000) 1000 89 60 2 f89.c0 (rdK (E89 L N) 1000 89 60 0 κ rec)) (.exit 2) (f89.T1_e2 z8 z9 z10) (f89.H1_e2 z8 z9 z10)
  =f89.p1_e2 L N (f89.X0_e0 κ) (f89.R0 rec) z8 z9 z10:=by kernel_rfl
theorem f89.s0_eq {R:Type} (L N:Nat) (κ:KX R) (rec:KT R) (s0:Bool) (s1:LLM) (s2:LB):
  evRd (E89 L N) (evCallI (E89 L N) 1 2000) 1000 89 60 0 f89.c0 κ rec (f89.T0 s0 s1 s2) (f89.H0 s0 s1 s2)
  =f89.s0 L N (f89.X0_e0 κ) (f89.R0 rec) s0 s1 s2:=by
 refine Eq.trans (b:=f89.s0' L N (f89.X0_e0 κ) (f89.R0 rec) (fun s4 s5 s6 s7=>evLp (E89 L N) (evCallI (E89 L N) 1 2000) 1000 89 60 2 f89.c1 (contAt (E89 L N) (evCallI (E89 L N) 1 2000) 1000 89 60 2 f89.c0 (rdK (E89 L N) 1000 89 60 0 κ rec)) L (f89.T1 s4 s5 s6 s7) (f89.H1 s4 s5 s6 s7)) s0 s1 s2) (by kernel_rfl) ?_
 unfold f89.s0
 simp only [f89.l1_eq]
 delta f89.X1_e2
 simp only [f89.p1_e2_eq]
theorem f89.l0_eq {R:Type} (L N:Nat) (κ:KX R):∀(n:Nat) (s0:Bool) (s1:LLM) (s2:LB),
  evLp (E89 L N) (evCallI (E89 L N) 1 2000) 1000 89 60 0 f89.c0 κ n (f89.T0 s0 s1 s2) (f89.H0 s0 s1 s2)
  =f89.l0 L N (f89.X0_e0 κ) n s0 s1 s2:=by
 intro n
 induction n with
 |zero=>intros;rfl
 |succ n ih=>
  intro s0 s1 s2
  rw [evLp_succ,f89.s0_eq]
  delta f89.R0
  simp only [ih]
  rfl
theorem f89.p0_e0_eq {R:Type} (L N:Nat) (κ:AV→Option R) (z3:LB):
  (contAt (E89 L N) (evCallI (E89 L N) 1 2000) 1000 89 60 0 (codeOf Tryz.f89) (finK (E89 L N) 1000 Tryz.f89 (finC (.one (.sl .bool)) κ))) (.exit 0) (f89.T0_e0 z3) (f89.H0_e0 z3)
  =f89.p0_e0 L N (fun a0=>κ (.tv (.sl .bool) a0)) z3:=by kernel_rfl
theorem f89.b_eq {R:Type} (L N:Nat) (κ:AV→Option R) (x0:Graph) (x1:LB):
  evBody (E89 L N) (evCallI (E89 L N) 1 2000) 1000 89 Tryz.f89 [(.tv (.st 2) x0),(.tv (.sl .bool) x1)] [] [] (finC (.one (.sl .bool)) κ)
  =f89.b L N (fun a0=>κ (.tv (.sl .bool) a0)) x0 x1:=by
 refine Eq.trans (b:=f89.b' L N (fun a0=>κ (.tv (.sl .bool) a0)) (fun s0 s1 s2=>evLp (E89 L N) (evCallI (E89 L N) 1 2000) 1000 89 60 0 f89.c0 (contAt (E89 L N) (evCallI (E89 L N) 1 2000) 1000 89 60 0 (codeOf Tryz.f89) (finK (E89 L N) 1000 Tryz.f89 (finC (.one (.sl .bool)) κ))) L (f89.T0 s0 s1 s2) (f89.H0 s0 s1 s2)) x0 x1) (by kernel_rfl) ?_
 unfold f89.b
 simp only [f89.l0_eq]
 delta f89.X0_e0
 simp only [f89.p0_e0_eq]
theorem f89.ok (L N:Nat) (hΦ:TellsOk Tryz.prog ((Φ9 L N))):EntOk Tryz.prog 89 (f89.ent L N):=entDa_ok (E:=(E89 L N)) (dep:=1000) (f:=Tryz.f89) (sound_of hΦ) okP (callI_sound (sound_of hΦ) okP 1 2000) rfl fun d _ hy=>(f89.b_eq L N (unR (.one (.sl .bool))) d.1 d.2.1).trans (Eq.trans (b:=f89.b L N some d.1 d.2.1) (by kernel_rfl) hy)
def Φ89 (L N:Nat):Tells:=(addT (Φ9 L N) 89 (f89.ent L N))
theorem Φ89_ok (L N:Nat):TellsOk Tryz.prog (Φ89 L N):=addT_ok (Φ9_ok L N) (f89.ok L N (Φ9_ok L N))
def f59.b' {R:Type} (L N:Nat) (k:LB→Option R) (x0:Graph):Option R:=
 bif (decide (0≤(x0.moves.length:Int))&&decide ((x0.moves.length:Int)≤(lim:Int))) then
  bif (decide (0≤(0:Int))&&decide ((0:Int)<((List.replicate (x0.moves.length:Int).toNat false).length:Int))) then
   (f89 L N (Graph.mk x0.moves) ((List.replicate (x0.moves.length:Int).toNat false).set ((0:Int).toNat) true)).bind fun y0=>
   k y0
  else none
 else none
def f59.b {R:Type} (L N:Nat) (k:LB→Option R) (x0:Graph):Option R:=
 f59.b' L N k x0
def f59 (L N:Nat) (x0:Graph):Option (LB):=f59.b L N some x0
def f59.ent (L N:Nat):=entDa [(.st 2)] (.one (.sl .bool)) fun d=>f59 L N d.1
noncomputable def E59 (L N:Nat):Env:={P:=Tryz.prog,ty:=tyOf,Φ:=(Φ89 L N),inl:=inlT,live:=lives,liveX:=livesX,L:=L,dp:=none,prom:=promT,heal:=healT,ren:=renT}
theorem f59.b_eq {R:Type} (L N:Nat) (κ:AV→Option R) (x0:Graph):
  evBody (E59 L N) (evCallI (E59 L N) 1 2000) 1000 59 Tryz.f59 [(.tv (.st 2) x0)] [] [] (finC (.one (.sl .bool)) κ)
  =f59.b L N (fun a0=>κ (.tv (.sl .bool) a0)) x0:=by kernel_rfl
theorem f59.ok (L N:Nat) (hΦ:TellsOk Tryz.prog ((Φ89 L N))):EntOk Tryz.prog 59 (f59.ent L N):=entDa_ok (E:=(E59 L N)) (dep:=1000) (f:=Tryz.f59) (sound_of hΦ) okP (callI_sound (sound_of hΦ) okP 1 2000) rfl fun d _ hy=>(f59.b_eq L N (unR (.one (.sl .bool))) d.1).trans (Eq.trans (b:=f59.b L N some d.1) (by kernel_rfl) hy)
def Φ59 (L N:Nat):Tells:=(addT (Φ89 L N) 59 (f59.ent L N))
theorem Φ59_ok (L N:Nat):TellsOk Tryz.prog (Φ59 L N):=addT_ok (Φ89_ok L N) (f59.ok L N (Φ89_ok L N))
def f60.j0' {R:Type} (L N:Nat) (k1_e2:LB→Int→Int→LLM→LB→Option R) (rec1:LB→Int→Int→Int→LLM→LB→Option R) (v18:LB) (v19:Int) (v20:Int) (v21:Int) (v22:Bool) (v23:LLM) (v24:LB):Option R:=
 bif v22 then
  bif (decide (0≤v20)&&decide (v20<(v23.length:Int))) then
   bif (decide (0≤v21)&&decide (v21<((listAt v23 [] v20.toNat).length:Int))) then
    bif (decide (0≤(listAt (listAt v23 [] v20.toNat) (Ty.dflt (.st 0)) v21.toNat).to)&&decide ((listAt (listAt v23 [] v20.toNat) (Ty.dflt (.st 0)) v21.toNat).to<(v24.length:Int))) then
     rec1 v18 v19 v20 (wi (v21+(1:Int))) v23 (v24.set (((listAt (listAt v23 [] v20.toNat) (Ty.dflt (.st 0)) v21.toNat).to).toNat) true)
    else none
   else none
  else none
 else rec1 v18 v19 v20 (wi (v21+(1:Int))) v23 v24
def f60.s1' {R:Type} (L N:Nat) (k1_e2:LB→Int→Int→LLM→LB→Option R) (rec1:LB→Int→Int→Int→LLM→LB→Option R) (s7:LB) (s8:Int) (s9:Int) (s10:Int) (s11:LLM) (s12:LB):Option R:=
 bif (decide (0≤s9)&&decide (s9<(s11.length:Int))) then
  bif (decide (s10<((listAt s11 [] s9.toNat).length:Int))) then
   bif (decide (0≤s9)&&decide (s9<(s7.length:Int))) then
    bif (listAt s7 false s9.toNat) then
     bif (decide (0≤s9)&&decide (s9<(s11.length:Int))) then
      bif (decide (0≤s10)&&decide (s10<((listAt s11 [] s9.toNat).length:Int))) then
       f60.j0' L N k1_e2 rec1 s7 s8 s9 s10 ((listAt (listAt s11 [] s9.toNat) (Ty.dflt (.st 0)) s10.toNat).act==s8) s11 s12
      else none
     else none
    else f60.j0' L N k1_e2 rec1 s7 s8 s9 s10 false s11 s12
   else none
  else k1_e2 s7 s8 s9 s11 s12
 else none
def f60.s1 {R:Type} (L N:Nat) (k1_e2:LB→Int→Int→LLM→LB→Option R) (rec1:LB→Int→Int→Int→LLM→LB→Option R) (s7:LB) (s8:Int) (s9:Int) (s10:Int) (s11:LLM) (s12:LB):Option R:=
 f60.s1' L N k1_e2 rec1 s7 s8 s9 s10 s11 s12
def f60.l1 {R:Type} (L N:Nat) (k1_e2:LB→Int→Int→LLM→LB→Option R):Nat→LB→Int→Int→Int→LLM→LB→Option R
 |0,_,_,_,_,_,_=>none
 |n+1,s7,s8,s9,s10,s11,s12=>f60.s1 L N k1_e2 (f60.l1 L N k1_e2 n) s7 s8 s9 s10 s11 s12
def f60.T1 (s7:LB) (s8:Int) (s9:Int) (s10:Int) (s11:LLM) (s12:LB):T:=mkT 60 [(1,(.tv (.sl .bool) s7)),(2,(.tv i64 s8)),(3,(.ptr 1003 0)),(7,(.row 1012)),(8,(.tv i64 s9)),(9,(.tv i64 s10))]
def f60.H1 (s7:LB) (s8:Int) (s9:Int) (s10:Int) (s11:LLM) (s12:LB):H:=[(1003,(.box [(.tv (.sl (.sl (.st 0))) s11)])),(1012,(.row 4 .bool s12))]
def f60.T1_e2 (z13:LB) (z14:Int) (z15:Int) (z16:LLM) (z17:LB):T:=mkT 60 [(1,(.tv (.sl .bool) z13)),(2,(.tv i64 z14)),(3,(.ptr 1003 0)),(7,(.row 1012)),(8,(.tv i64 z15))]
def f60.H1_e2 (z13:LB) (z14:Int) (z15:Int) (z16:LLM) (z17:LB):H:=[(1003,(.box [(.tv (.sl (.sl (.st 0))) z16)])),(1012,(.row 4 .bool z17))]
def f60.p1_e2' {R:Type} (L N:Nat) (k0_e0:LLM→LB→Option R) (rec0:LB→Int→Int→LLM→LB→Option R) (z13:LB) (z14:Int) (z15:Int) (z16:LLM) (z17:LB):Option R:=
 rec0 z13 z14 (wi (z15+(1:Int))) z16 z17
def f60.p1_e2 {R:Type} (L N:Nat) (k0_e0:LLM→LB→Option R) (rec0:LB→Int→Int→LLM→LB→Option R) (z13:LB) (z14:Int) (z15:Int) (z16:LLM) (z17:LB):Option R:=
 f60.p1_e2' L N k0_e0 rec0 z13 z14 z15 z16 z17
def f60.s0' {R:Type} (L N:Nat) (k0_e0:LLM→LB→Option R) (rec0:LB→Int→Int→LLM→LB→Option R) (w1:LB→Int→Int→Int→LLM→LB→Option R) (s0:LB) (s1:Int) (s2:Int) (s3:LLM) (s4:LB):Option R:=
 bif (decide (s2<(s0.length:Int))) then
  w1 s0 s1 s2 (0:Int) s3 s4
 else k0_e0 s3 s4
def f60.s0 {R:Type} (L N:Nat) (k0_e0:LLM→LB→Option R) (rec0:LB→Int→Int→LLM→LB→Option R) (s0:LB) (s1:Int) (s2:Int) (s3:LLM) (s4:LB):Option R:=
 f60.s0' L N k0_e0 rec0 (fun s7 s8 s9 s10 s11 s12=>f60.l1 L N (fun z13 z14 z15 z16 z17=>f60.p1_e2 L N k0_e0 rec0 z13 z14 z15 z16 z17) L s7 s8 s9 s10 s11 s12) s0 s1 s2 s3 s4
def f60.l0 {R:Type} (L N:Nat) (k0_e0:LLM→LB→Option R):Nat→LB→Int→Int→LLM→LB→Option R
 |0,_,_,_,_,_=>none
 |n+1,s0,s1,s2,s3,s4=>f60.s0 L N k0_e0 (f60.l0 L N k0_e0 n) s0 s1 s2 s3 s4
def f60.T0 (s0:LB) (s1:Int) (s2:Int) (s3:LLM) (s4:LB):T:=mkT 60 [(1,(.tv (.sl .bool) s0)),(2,(.tv i64 s1)),(3,(.ptr 1003 0)),(7,(.row 1012)),(8,(.tv i64 s2))]
def f60.H0 (s0:LB) (s1:Int) (s2:Int) (s3:LLM) (s4:LB):H:=[(1003,(.box [(.tv (.sl (.sl (.st 0))) s3)])),(1012,(.row 4 .bool s4))]
def f60.T0_e0 (z5:LLM) (z6:LB):T:=mkT 60 [(3,(.ptr 1003 0)),(7,(.row 1012))]
def f60.H0_e0 (z5:LLM) (z6:LB):H:=[(1003,(.box [(.tv (.sl (.sl (.st 0))) z5)])),(1012,(.row 4 .bool z6))]
def f60.p0_e0' {R:Type} (L N:Nat) (k:LB→Option R) (z5:LLM) (z6:LB):Option R:=
 (f89 L N (Graph.mk z5) z6).bind fun y31=>
 k y31
def f60.p0_e0 {R:Type} (L N:Nat) (k:LB→Option R) (z5:LLM) (z6:LB):Option R:=
 f60.p0_e0' L N k z5 z6
def f60.b' {R:Type} (L N:Nat) (k:LB→Option R) (w0:LB→Int→Int→LLM→LB→Option R) (x0:Graph) (x1:LB) (x2:Int):Option R:=
 bif (decide (0≤(x1.length:Int))&&decide ((x1.length:Int)≤(lim:Int))) then
  w0 x1 x2 (0:Int) x0.moves (List.replicate (x1.length:Int).toNat false)
 else none
def f60.b {R:Type} (L N:Nat) (k:LB→Option R) (x0:Graph) (x1:LB) (x2:Int):Option R:=
 f60.b' L N k (fun s0 s1 s2 s3 s4=>f60.l0 L N (fun z5 z6=>f60.p0_e0 L N k z5 z6) L s0 s1 s2 s3 s4) x0 x1 x2
def f60 (L N:Nat) (x0:Graph) (x1:LB) (x2:Int):Option (LB):=f60.b L N some x0 x1 x2
def f60.ent (L N:Nat):=entDa [(.st 2),(.sl .bool),i64] (.one (.sl .bool)) fun d=>f60 L N d.1 d.2.1 d.2.2.1
noncomputable def E60 (L N:Nat):Env:={P:=Tryz.prog,ty:=tyOf,Φ:=(Φ59 L N),inl:=inlT,live:=lives,liveX:=livesX,L:=L,dp:=none,prom:=promT,heal:=healT,ren:=renT}
noncomputable def f60.c0:Code:=loopAt 0 (codeOf Tryz.f60)
noncomputable def f60.c1:Code:=loopAt 2 f60.c0
def f60.X1_e2 {R:Type} (κ:KX R):=fun z13 z14 z15 z16 z17=>κ (.exit 2) (f60.T1_e2 z13 z14 z15 z16 z17) (f60.H1_e2 z13 z14 z15 z16 z17)
def f60.R1 {R:Type} (rec:KT R):=fun s7 s8 s9 s10 s11 s12=>rec (f60.T1 s7 s8 s9 s10 s11 s12) (f60.H1 s7 s8 s9 s10 s11 s12)
theorem f60.s1_eq {R:Type} (L N:Nat) (κ:KX R) (rec:KT R) (s7:LB) (s8:Int) (s9:Int) (s10:Int) (s11:LLM) (s12:LB):
  evRd (E60 L N) (evCallI (E60 L N) 1 2000) 1000 60 60 2 f60.c1 κ rec (f60.T1 s7 s8 s9 s10 s11 s12) (f60.H1 s7 s8 s9 s10 s11 s12)
  =f60.s1 L N (f60.X1_e2 κ) (f60.R1 rec) s7 s8 s9 s10 s11 s12:=by kernel_rfl
theorem f60.l1_eq {R:Type} (L N:Nat) (κ:KX R):∀(n:Nat) (s7:LB) (s8:Int) (s9:Int) (s10:Int) (s11:LLM) (s12:LB),
  evLp (E60 L N) (evCallI (E60 L N) 1 2000) 1000 60 60 2 f60.c1 κ n (f60.T1 s7 s8 s9 s10 s11 s12) (f60.H1 s7 s8 s9 s10 s11 s12)
  =f60.l1 L N (f60.X1_e2 κ) n s7 s8 s9 s10 s11 s12:=by
 intro n
 induction n with
 |zero=>intros;rfl
 |succ n ih=>
  intro s7 s8 s9 s10 s11 s12
  rw [evLp_succ,f60.s1_eq]
  delta f60.R1
  simp only [ih]
  rfl
def f60.X0_e0 {R:Type} (κ:KX R):=fun z5 z6=>κ (.exit 0) (f60.T0_e0 z5 z6) (f60.H0_e0 z5 z6)
def f60.R0 {R:Type} (rec:KT R):=fun s0 s1 s2 s3 s4=>rec (f60.T0 s0 s1 s2 s3 s4) (f60.H0 s0 s1 s2 s3 s4)
theorem f60.p1_e2_eq {R:Type} (L N:Nat) (κ:KX R) (rec:KT R) (z13:LB) (z14:Int) (z15:Int) (z16:LLM) (z17:LB):
  (contAt (E60 L N) (evCallI (E60 L N) 1 2000) 1000 60 60 2 f60.c0 (rdK (E60 L N) 1000 60 60 0 κ rec)) (.exit 2) (f60.T1_e2 z13 z14 z15 z16 z17) (f60.H1_e2 z13 z14 z15 z16 z17)
  =f60.p1_e2 L N (f60.X0_e0 κ) (f60.R0 rec) z13 z14 z15 z16 z17:=by kernel_rfl
theorem f60.s0_eq {R:Type} (L N:Nat) (κ:KX R) (rec:KT R) (s0:LB) (s1:Int) (s2:Int) (s3:LLM) (s4:LB):
  evRd (E60 L N) (evCallI (E60 L N) 1 2000) 1000 60 60 0 f60.c0 κ rec (f60.T0 s0 s1 s2 s3 s4) (f60.H0 s0 s1 s2 s3 s4)
  =f60.s0 L N (f60.X0_e0 κ) (f60.R0 rec) s0 s1 s2 s3 s4:=by
 refine Eq.trans (b:=f60.s0' L N (f60.X0_e0 κ) (f60.R0 rec) (fun s7 s8 s9 s10 s11 s12=>evLp (E60 L N) (evCallI (E60 L N) 1 2000) 1000 60 60 2 f60.c1 (contAt (E60 L N) (evCallI (E60 L N) 1 2000) 1000 60 60 2 f60.c0 (rdK (E60 L N) 1000 60 60 0 κ rec)) L (f60.T1 s7 s8 s9 s10 s11 s12) (f60.H1 s7 s8 s9 s10 s11 s12)) s0 s1 s2 s3 s4) (by kernel_rfl) ?_
 unfold f60.s0
 simp only [f60.l1_eq]
 delta f60.X1_e2
 simp only [f60.p1_e2_eq]
theorem f60.l0_eq {R:Type} (L N:Nat) (κ:KX R):∀(n:Nat) (s0:LB) (s1:Int) (s2:Int) (s3:LLM) (s4:LB),
  evLp (E60 L N) (evCallI (E60 L N) 1 2000) 1000 60 60 0 f60.c0 κ n (f60.T0 s0 s1 s2 s3 s4) (f60.H0 s0 s1 s2 s3 s4)
  =f60.l0 L N (f60.X0_e0 κ) n s0 s1 s2 s3 s4:=by
 intro n
 induction n with
 |zero=>intros;rfl
 |succ n ih=>
  intro s0 s1 s2 s3 s4
  rw [evLp_succ,f60.s0_eq]
  delta f60.R0
  simp only [ih]
  rfl
theorem f60.p0_e0_eq {R:Type} (L N:Nat) (κ:AV→Option R) (z5:LLM) (z6:LB):
  (contAt (E60 L N) (evCallI (E60 L N) 1 2000) 1000 60 60 0 (codeOf Tryz.f60) (finK (E60 L N) 1000 Tryz.f60 (finC (.one (.sl .bool)) κ))) (.exit 0) (f60.T0_e0 z5 z6) (f60.H0_e0 z5 z6)
  =f60.p0_e0 L N (fun a0=>κ (.tv (.sl .bool) a0)) z5 z6:=by kernel_rfl
theorem f60.b_eq {R:Type} (L N:Nat) (κ:AV→Option R) (x0:Graph) (x1:LB) (x2:Int):
  evBody (E60 L N) (evCallI (E60 L N) 1 2000) 1000 60 Tryz.f60 [(.tv (.st 2) x0),(.tv (.sl .bool) x1),(.tv i64 x2)] [] [] (finC (.one (.sl .bool)) κ)
  =f60.b L N (fun a0=>κ (.tv (.sl .bool) a0)) x0 x1 x2:=by
 refine Eq.trans (b:=f60.b' L N (fun a0=>κ (.tv (.sl .bool) a0)) (fun s0 s1 s2 s3 s4=>evLp (E60 L N) (evCallI (E60 L N) 1 2000) 1000 60 60 0 f60.c0 (contAt (E60 L N) (evCallI (E60 L N) 1 2000) 1000 60 60 0 (codeOf Tryz.f60) (finK (E60 L N) 1000 Tryz.f60 (finC (.one (.sl .bool)) κ))) L (f60.T0 s0 s1 s2 s3 s4) (f60.H0 s0 s1 s2 s3 s4)) x0 x1 x2) (by kernel_rfl) ?_
 unfold f60.b
 simp only [f60.l0_eq]
 delta f60.X0_e0
 simp only [f60.p0_e0_eq]
theorem f60.ok (L N:Nat) (hΦ:TellsOk Tryz.prog ((Φ59 L N))):EntOk Tryz.prog 60 (f60.ent L N):=entDa_ok (E:=(E60 L N)) (dep:=1000) (f:=Tryz.f60) (sound_of hΦ) okP (callI_sound (sound_of hΦ) okP 1 2000) rfl fun d _ hy=>(f60.b_eq L N (unR (.one (.sl .bool))) d.1 d.2.1 d.2.2.1).trans (Eq.trans (b:=f60.b L N some d.1 d.2.1 d.2.2.1) (by kernel_rfl) hy)
def Φ60 (L N:Nat):Tells:=(addT (Φ59 L N) 60 (f60.ent L N))
theorem Φ60_ok (L N:Nat):TellsOk Tryz.prog (Φ60 L N):=addT_ok (Φ59_ok L N) (f60.ok L N (Φ59_ok L N))
def f61.s0' {R:Type} (L N:Nat) (k0_e0:Option R) (k0_r:Bool→Option R) (rec0:LB→Int→Option R) (s0:LB) (s1:Int):Option R:=
 bif (decide (s1<(s0.length:Int))) then
  bif (decide (0≤s1)&&decide (s1<(s0.length:Int))) then
   bif (listAt s0 false s1.toNat) then
    k0_r true
   else rec0 s0 (wi (s1+(1:Int)))
  else none
 else k0_e0
def f61.s0 {R:Type} (L N:Nat) (k0_e0:Option R) (k0_r:Bool→Option R) (rec0:LB→Int→Option R) (s0:LB) (s1:Int):Option R:=
 f61.s0' L N k0_e0 k0_r rec0 s0 s1
def f61.l0 {R:Type} (L N:Nat) (k0_e0:Option R) (k0_r:Bool→Option R):Nat→LB→Int→Option R
 |0,_,_=>none
 |n+1,s0,s1=>f61.s0 L N k0_e0 k0_r (f61.l0 L N k0_e0 k0_r n) s0 s1
def f61.T0 (s0:LB) (s1:Int):T:=mkT 14 [(0,(.tv (.sl .bool) s0)),(3,(.tv i64 s1))]
def f61.H0 (s0:LB) (s1:Int):H:=[]
def f61.T0_e0:T:=mkT 14 []
def f61.H0_e0:H:=[]
def f61.T0_r (z2:Bool):T:=mkT 14 [(2,(.tv .bool z2))]
def f61.H0_r (z2:Bool):H:=[]
def f61.p0_e0' {R:Type} (L N:Nat) (k:Bool→Option R):Option R:=
 k false
def f61.p0_e0 {R:Type} (L N:Nat) (k:Bool→Option R):Option R:=
 f61.p0_e0' L N k
def f61.p0_r' {R:Type} (L N:Nat) (k:Bool→Option R) (z2:Bool):Option R:=
 k z2
def f61.p0_r {R:Type} (L N:Nat) (k:Bool→Option R) (z2:Bool):Option R:=
 f61.p0_r' L N k z2
def f61.b' {R:Type} (L N:Nat) (k:Bool→Option R) (w0:LB→Int→Option R) (x0:LB):Option R:=
 w0 x0 (0:Int)
def f61.b {R:Type} (L N:Nat) (k:Bool→Option R) (x0:LB):Option R:=
 f61.b' L N k (fun s0 s1=>f61.l0 L N (f61.p0_e0 L N k) (fun z2=>f61.p0_r L N k z2) L s0 s1) x0
def f61 (L N:Nat) (x0:LB):Option (Bool):=f61.b L N some x0
def f61.ent (L N:Nat):=entRo [(.sl .bool)] (.one .bool) fun d=>f61 L N d.1
noncomputable def E61 (L N:Nat):Env:={P:=Tryz.prog,ty:=tyOf,Φ:=(Φ60 L N),inl:=inlT,live:=lives,liveX:=livesX,L:=L,dp:=none,prom:=promT,heal:=healT,ren:=renT}
noncomputable def f61.c0:Code:=loopAt 0 (codeOf Tryz.f61)
def f61.X0_e0 {R:Type} (κ:KX R):=κ (.exit 0) f61.T0_e0 f61.H0_e0
def f61.X0_r {R:Type} (κ:KX R):=fun z2=>κ .ret (f61.T0_r z2) (f61.H0_r z2)
def f61.R0 {R:Type} (rec:KT R):=fun s0 s1=>rec (f61.T0 s0 s1) (f61.H0 s0 s1)
theorem f61.s0_eq {R:Type} (L N:Nat) (κ:KX R) (rec:KT R) (s0:LB) (s1:Int):
  evRd (E61 L N) (evCallI (E61 L N) 1 2000) 1000 61 14 0 f61.c0 κ rec (f61.T0 s0 s1) (f61.H0 s0 s1)
  =f61.s0 L N (f61.X0_e0 κ) (f61.X0_r κ) (f61.R0 rec) s0 s1:=by kernel_rfl
theorem f61.l0_eq {R:Type} (L N:Nat) (κ:KX R):∀(n:Nat) (s0:LB) (s1:Int),
  evLp (E61 L N) (evCallI (E61 L N) 1 2000) 1000 61 14 0 f61.c0 κ n (f61.T0 s0 s1) (f61.H0 s0 s1)
  =f61.l0 L N (f61.X0_e0 κ) (f61.X0_r κ) n s0 s1:=by
 intro n
 induction n with
 |zero=>intros;rfl
 |succ n ih=>
  intro s0 s1
  rw [evLp_succ,f61.s0_eq]
  delta f61.R0
  simp only [ih]
  rfl
theorem f61.p0_e0_eq {R:Type} (L N:Nat) (κ:AV→Option R):
  (contAt (E61 L N) (evCallI (E61 L N) 1 2000) 1000 61 14 0 (codeOf Tryz.f61) (finK (E61 L N) 1000 Tryz.f61 (finC (.one .bool) κ))) (.exit 0) f61.T0_e0 f61.H0_e0
  =f61.p0_e0 L N (fun a0=>κ (.tv .bool a0)):=by kernel_rfl
theorem f61.p0_r_eq {R:Type} (L N:Nat) (κ:AV→Option R) (z2:Bool):
  (contAt (E61 L N) (evCallI (E61 L N) 1 2000) 1000 61 14 0 (codeOf Tryz.f61) (finK (E61 L N) 1000 Tryz.f61 (finC (.one .bool) κ))) .ret (f61.T0_r z2) (f61.H0_r z2)
  =f61.p0_r L N (fun a0=>κ (.tv .bool a0)) z2:=by kernel_rfl
theorem f61.b_eq {R:Type} (L N:Nat) (κ:AV→Option R) (x0:LB):
  evBody (E61 L N) (evCallI (E61 L N) 1 2000) 1000 61 Tryz.f61 [(.tv (.sl .bool) x0)] [] [] (finC (.one .bool) κ)
  =f61.b L N (fun a0=>κ (.tv .bool a0)) x0:=by
 refine Eq.trans (b:=f61.b' L N (fun a0=>κ (.tv .bool a0)) (fun s0 s1=>evLp (E61 L N) (evCallI (E61 L N) 1 2000) 1000 61 14 0 f61.c0 (contAt (E61 L N) (evCallI (E61 L N) 1 2000) 1000 61 14 0 (codeOf Tryz.f61) (finK (E61 L N) 1000 Tryz.f61 (finC (.one .bool) κ))) L (f61.T0 s0 s1) (f61.H0 s0 s1)) x0) (by kernel_rfl) ?_
 unfold f61.b
 simp only [f61.l0_eq]
 delta f61.X0_e0 f61.X0_r
 simp only [f61.p0_e0_eq,f61.p0_r_eq]
theorem f61.ok (L N:Nat) (hΦ:TellsOk Tryz.prog ((Φ60 L N))):EntOk Tryz.prog 61 (f61.ent L N):=entRo_ok (E:=(E61 L N)) (dep:=1000) (f:=Tryz.f61) (sound_of hΦ) okP (callI_sound (sound_of hΦ) okP 1 2000) rfl rfl fun d _ hy=>(f61.b_eq L N (unR (.one .bool)) d.1).trans (Eq.trans (b:=f61.b L N some d.1) (by kernel_rfl) hy)
def Φ61 (L N:Nat):Tells:=(addT (Φ60 L N) 61 (f61.ent L N))
theorem Φ61_ok (L N:Nat):TellsOk Tryz.prog (Φ61 L N):=addT_ok (Φ60_ok L N) (f61.ok L N (Φ60_ok L N))
def f90.s0' {R:Type} (L N:Nat) (k0_e0:Option R) (k0_r:Bool→Option R) (rec0:LI→LI→Int→Option R) (s0:LI) (s1:LI) (s2:Int):Option R:=
 bif (decide (s2<(s0.length:Int))) then
  bif (decide (0≤s2)&&decide (s2<(s0.length:Int))) then
   bif (decide (0≤s2)&&decide (s2<(s1.length:Int))) then
    bif ((listAt s0 (0:Int) s2.toNat) !=(listAt s1 (0:Int) s2.toNat)) then
     k0_r false
    else rec0 s0 s1 (wi (s2+(1:Int)))
   else none
  else none
 else k0_e0
def f90.s0 {R:Type} (L N:Nat) (k0_e0:Option R) (k0_r:Bool→Option R) (rec0:LI→LI→Int→Option R) (s0:LI) (s1:LI) (s2:Int):Option R:=
 f90.s0' L N k0_e0 k0_r rec0 s0 s1 s2
def f90.l0 {R:Type} (L N:Nat) (k0_e0:Option R) (k0_r:Bool→Option R):Nat→LI→LI→Int→Option R
 |0,_,_,_=>none
 |n+1,s0,s1,s2=>f90.s0 L N k0_e0 k0_r (f90.l0 L N k0_e0 k0_r n) s0 s1 s2
def f90.T0 (s0:LI) (s1:LI) (s2:Int):T:=mkT 26 [(0,(.tv (.sl i64) s0)),(1,(.tv (.sl i64) s1)),(5,(.tv i64 s2))]
def f90.H0 (s0:LI) (s1:LI) (s2:Int):H:=[]
def f90.T0_e0:T:=mkT 26 []
def f90.H0_e0:H:=[]
def f90.T0_r (z3:Bool):T:=mkT 26 [(4,(.tv .bool z3))]
def f90.H0_r (z3:Bool):H:=[]
def f90.p0_e0' {R:Type} (L N:Nat) (k:Bool→Option R):Option R:=
 k true
def f90.p0_e0 {R:Type} (L N:Nat) (k:Bool→Option R):Option R:=
 f90.p0_e0' L N k
def f90.p0_r' {R:Type} (L N:Nat) (k:Bool→Option R) (z3:Bool):Option R:=
 k z3
def f90.p0_r {R:Type} (L N:Nat) (k:Bool→Option R) (z3:Bool):Option R:=
 f90.p0_r' L N k z3
def f90.b' {R:Type} (L N:Nat) (k:Bool→Option R) (w0:LI→LI→Int→Option R) (x0:LI) (x1:LI):Option R:=
 bif ((x0.length:Int) !=(x1.length:Int)) then
  k false
 else w0 x0 x1 (0:Int)
def f90.b {R:Type} (L N:Nat) (k:Bool→Option R) (x0:LI) (x1:LI):Option R:=
 f90.b' L N k (fun s0 s1 s2=>f90.l0 L N (f90.p0_e0 L N k) (fun z3=>f90.p0_r L N k z3) L s0 s1 s2) x0 x1
def f90 (L N:Nat) (x0:LI) (x1:LI):Option (Bool):=f90.b L N some x0 x1
def f90.ent (L N:Nat):=entRo [(.sl i64),(.sl i64)] (.one .bool) fun d=>f90 L N d.1 d.2.1
noncomputable def E90 (L N:Nat):Env:={P:=Tryz.prog,ty:=tyOf,Φ:=(Φ61 L N),inl:=inlT,live:=lives,liveX:=livesX,L:=L,dp:=none,prom:=promT,heal:=healT,ren:=renT}
noncomputable def f90.c0:Code:=loopAt 0 (codeOf Tryz.f90)
def f90.X0_e0 {R:Type} (κ:KX R):=κ (.exit 0) f90.T0_e0 f90.H0_e0
def f90.X0_r {R:Type} (κ:KX R):=fun z3=>κ .ret (f90.T0_r z3) (f90.H0_r z3)
def f90.R0 {R:Type} (rec:KT R):=fun s0 s1 s2=>rec (f90.T0 s0 s1 s2) (f90.H0 s0 s1 s2)
theorem f90.s0_eq {R:Type} (L N:Nat) (κ:KX R) (rec:KT R) (s0:LI) (s1:LI) (s2:Int):
  evRd (E90 L N) (evCallI (E90 L N) 1 2000) 1000 90 26 0 f90.c0 κ rec (f90.T0 s0 s1 s2) (f90.H0 s0 s1 s2)
  =f90.s0 L N (f90.X0_e0 κ) (f90.X0_r κ) (f90.R0 rec) s0 s1 s2:=by kernel_rfl
theorem f90.l0_eq {R:Type} (L N:Nat) (κ:KX R):∀(n:Nat) (s0:LI) (s1:LI) (s2:Int),
  evLp (E90 L N) (evCallI (E90 L N) 1 2000) 1000 90 26 0 f90.c0 κ n (f90.T0 s0 s1 s2) (f90.H0 s0 s1 s2)
  =f90.l0 L N (f90.X0_e0 κ) (f90.X0_r κ) n s0 s1 s2:=by
 intro n
 induction n with
 |zero=>intros;rfl
 |succ n ih=>
  intro s0 s1 s2
  rw [evLp_succ,f90.s0_eq]
  delta f90.R0
  simp only [ih]
  rfl
theorem f90.p0_e0_eq {R:Type} (L N:Nat) (κ:AV→Option R):
  (contAt (E90 L N) (evCallI (E90 L N) 1 2000) 1000 90 26 0 (codeOf Tryz.f90) (finK (E90 L N) 1000 Tryz.f90 (finC (.one .bool) κ))) (.exit 0) f90.T0_e0 f90.H0_e0
  =f90.p0_e0 L N (fun a0=>κ (.tv .bool a0)):=by kernel_rfl
theorem f90.p0_r_eq {R:Type} (L N:Nat) (κ:AV→Option R) (z3:Bool):
  (contAt (E90 L N) (evCallI (E90 L N) 1 2000) 1000 90 26 0 (codeOf Tryz.f90) (finK (E90 L N) 1000 Tryz.f90 (finC (.one .bool) κ))) .ret (f90.T0_r z3) (f90.H0_r z3)
  =f90.p0_r L N (fun a0=>κ (.tv .bool a0)) z3:=by kernel_rfl
theorem f90.b_eq {R:Type} (L N:Nat) (κ:AV→Option R) (x0:LI) (x1:LI):
  evBody (E90 L N) (evCallI (E90 L N) 1 2000) 1000 90 Tryz.f90 [(.tv (.sl i64) x0),(.tv (.sl i64) x1)] [] [] (finC (.one .bool) κ)
  =f90.b L N (fun a0=>κ (.tv .bool a0)) x0 x1:=by
 refine Eq.trans (b:=f90.b' L N (fun a0=>κ (.tv .bool a0)) (fun s0 s1 s2=>evLp (E90 L N) (evCallI (E90 L N) 1 2000) 1000 90 26 0 f90.c0 (contAt (E90 L N) (evCallI (E90 L N) 1 2000) 1000 90 26 0 (codeOf Tryz.f90) (finK (E90 L N) 1000 Tryz.f90 (finC (.one .bool) κ))) L (f90.T0 s0 s1 s2) (f90.H0 s0 s1 s2)) x0 x1) (by kernel_rfl) ?_
 unfold f90.b
 simp only [f90.l0_eq]
 delta f90.X0_e0 f90.X0_r
 simp only [f90.p0_e0_eq,f90.p0_r_eq]
theorem f90.ok (L N:Nat) (hΦ:TellsOk Tryz.prog ((Φ61 L N))):EntOk Tryz.prog 90 (f90.ent L N):=entRo_ok (E:=(E90 L N)) (dep:=1000) (f:=Tryz.f90) (sound_of hΦ) okP (callI_sound (sound_of hΦ) okP 1 2000) rfl rfl fun d _ hy=>(f90.b_eq L N (unR (.one .bool)) d.1 d.2.1).trans (Eq.trans (b:=f90.b L N some d.1 d.2.1) (by kernel_rfl) hy)
def Φ90 (L N:Nat):Tells:=(addT (Φ61 L N) 90 (f90.ent L N))
theorem Φ90_ok (L N:Nat):TellsOk Tryz.prog (Φ90 L N):=addT_ok (Φ61_ok L N) (f90.ok L N (Φ61_ok L N))
def f91.s0' {R:Type} (L N:Nat) (k0_e0:LI→Option R) (rec0:LB→Int→LI→Option R) (s0:LB) (s1:Int) (s2:LI):Option R:=
 bif (decide (s1<(s0.length:Int))) then
  bif (decide (0≤s1)&&decide (s1<(s0.length:Int))) then
   bif (listAt s0 false s1.toNat) then
    bif (decide (s2.length+([s1]:LI).length≤lim)) then
     rec0 s0 (wi (s1+(1:Int))) (s2++([s1]:LI))
    else none
   else rec0 s0 (wi (s1+(1:Int))) s2
  else none
 else k0_e0 s2
def f91.s0 {R:Type} (L N:Nat) (k0_e0:LI→Option R) (rec0:LB→Int→LI→Option R) (s0:LB) (s1:Int) (s2:LI):Option R:=
 f91.s0' L N k0_e0 rec0 s0 s1 s2
def f91.l0 {R:Type} (L N:Nat) (k0_e0:LI→Option R):Nat→LB→Int→LI→Option R
 |0,_,_,_=>none
 |n+1,s0,s1,s2=>f91.s0 L N k0_e0 (f91.l0 L N k0_e0 n) s0 s1 s2
def f91.T0 (s0:LB) (s1:Int) (s2:LI):T:=mkT 21 [(0,(.tv (.sl .bool) s0)),(3,(.row 1005)),(4,(.tv i64 s1))]
def f91.H0 (s0:LB) (s1:Int) (s2:LI):H:=[(1005,(.row 3 i64 s2))]
def f91.T0_e0 (z3:LI):T:=mkT 21 [(3,(.row 1005))]
def f91.H0_e0 (z3:LI):H:=[(1005,(.row 3 i64 z3))]
def f91.p0_e0' {R:Type} (L N:Nat) (k:LI→Option R) (z3:LI):Option R:=
 k z3
def f91.p0_e0 {R:Type} (L N:Nat) (k:LI→Option R) (z3:LI):Option R:=
 f91.p0_e0' L N k z3
def f91.b' {R:Type} (L N:Nat) (k:LI→Option R) (w0:LB→Int→LI→Option R) (x0:LB):Option R:=
 w0 x0 (0:Int) ([]:LI)
def f91.b {R:Type} (L N:Nat) (k:LI→Option R) (x0:LB):Option R:=
 f91.b' L N k (fun s0 s1 s2=>f91.l0 L N (fun z3=>f91.p0_e0 L N k z3) L s0 s1 s2) x0
def f91 (L N:Nat) (x0:LB):Option (LI):=f91.b L N some x0
def f91.ent (L N:Nat):=entDa [(.sl .bool)] (.one (.sl i64)) fun d=>f91 L N d.1
noncomputable def E91 (L N:Nat):Env:={P:=Tryz.prog,ty:=tyOf,Φ:=(Φ90 L N),inl:=inlT,live:=lives,liveX:=livesX,L:=L,dp:=none,prom:=promT,heal:=healT,ren:=renT}
noncomputable def f91.c0:Code:=loopAt 0 (codeOf Tryz.f91)
def f91.X0_e0 {R:Type} (κ:KX R):=fun z3=>κ (.exit 0) (f91.T0_e0 z3) (f91.H0_e0 z3)
def f91.R0 {R:Type} (rec:KT R):=fun s0 s1 s2=>rec (f91.T0 s0 s1 s2) (f91.H0 s0 s1 s2)
theorem f91.s0_eq {R:Type} (L N:Nat) (κ:KX R) (rec:KT R) (s0:LB) (s1:Int) (s2:LI):
  evRd (E91 L N) (evCallI (E91 L N) 1 2000) 1000 91 21 0 f91.c0 κ rec (f91.T0 s0 s1 s2) (f91.H0 s0 s1 s2)
  =f91.s0 L N (f91.X0_e0 κ) (f91.R0 rec) s0 s1 s2:=by kernel_rfl
theorem f91.l0_eq {R:Type} (L N:Nat) (κ:KX R):∀(n:Nat) (s0:LB) (s1:Int) (s2:LI),
  evLp (E91 L N) (evCallI (E91 L N) 1 2000) 1000 91 21 0 f91.c0 κ n (f91.T0 s0 s1 s2) (f91.H0 s0 s1 s2)
  =f91.l0 L N (f91.X0_e0 κ) n s0 s1 s2:=by
 intro n
 induction n with
 |zero=>intros;rfl
 |succ n ih=>
  intro s0 s1 s2
  rw [evLp_succ,f91.s0_eq]
  delta f91.R0
  simp only [ih]
  rfl
theorem f91.p0_e0_eq {R:Type} (L N:Nat) (κ:AV→Option R) (z3:LI):
  (contAt (E91 L N) (evCallI (E91 L N) 1 2000) 1000 91 21 0 (codeOf Tryz.f91) (finK (E91 L N) 1000 Tryz.f91 (finC (.one (.sl i64)) κ))) (.exit 0) (f91.T0_e0 z3) (f91.H0_e0 z3)
  =f91.p0_e0 L N (fun a0=>κ (.tv (.sl i64) a0)) z3:=by kernel_rfl
theorem f91.b_eq {R:Type} (L N:Nat) (κ:AV→Option R) (x0:LB):
  evBody (E91 L N) (evCallI (E91 L N) 1 2000) 1000 91 Tryz.f91 [(.tv (.sl .bool) x0)] [] [] (finC (.one (.sl i64)) κ)
  =f91.b L N (fun a0=>κ (.tv (.sl i64) a0)) x0:=by
 refine Eq.trans (b:=f91.b' L N (fun a0=>κ (.tv (.sl i64) a0)) (fun s0 s1 s2=>evLp (E91 L N) (evCallI (E91 L N) 1 2000) 1000 91 21 0 f91.c0 (contAt (E91 L N) (evCallI (E91 L N) 1 2000) 1000 91 21 0 (codeOf Tryz.f91) (finK (E91 L N) 1000 Tryz.f91 (finC (.one (.sl i64)) κ))) L (f91.T0 s0 s1 s2) (f91.H0 s0 s1 s2)) x0) (by kernel_rfl) ?_
 unfold f91.b
 simp only [f91.l0_eq]
 delta f91.X0_e0
 simp only [f91.p0_e0_eq]
theorem f91.ok (L N:Nat) (hΦ:TellsOk Tryz.prog ((Φ90 L N))):EntOk Tryz.prog 91 (f91.ent L N):=entDa_ok (E:=(E91 L N)) (dep:=1000) (f:=Tryz.f91) (sound_of hΦ) okP (callI_sound (sound_of hΦ) okP 1 2000) rfl fun d _ hy=>(f91.b_eq L N (unR (.one (.sl i64))) d.1).trans (Eq.trans (b:=f91.b L N some d.1) (by kernel_rfl) hy)
def Φ91 (L N:Nat):Tells:=(addT (Φ90 L N) 91 (f91.ent L N))
theorem Φ91_ok (L N:Nat):TellsOk Tryz.prog (Φ91 L N):=addT_ok (Φ90_ok L N) (f91.ok L N (Φ90_ok L N))
def f62.s0' {R:Type} (L N:Nat) (k0_e0:LLB→Option R) (k0_r:LLB→Int→Option R) (rec0:LLB→LB→Int→Option R) (s0:LLB) (s1:LB) (s2:Int):Option R:=
 bif (decide (s2<(s0.length:Int))) then
  bif (decide (0≤s2)&&decide (s2<(s0.length:Int))) then
   (f91 L N (listAt s0 [] s2.toNat)).bind fun y4=>
   (f91 L N s1).bind fun y5=>
   (f90 L N y4 y5).bind fun y6=>
   bif y6 then
    k0_r s0 s2
   else rec0 s0 s1 (wi (s2+(1:Int)))
  else none
 else k0_e0 s0
def f62.s0 {R:Type} (L N:Nat) (k0_e0:LLB→Option R) (k0_r:LLB→Int→Option R) (rec0:LLB→LB→Int→Option R) (s0:LLB) (s1:LB) (s2:Int):Option R:=
 f62.s0' L N k0_e0 k0_r rec0 s0 s1 s2
def f62.l0 {R:Type} (L N:Nat) (k0_e0:LLB→Option R) (k0_r:LLB→Int→Option R):Nat→LLB→LB→Int→Option R
 |0,_,_,_=>none
 |n+1,s0,s1,s2=>f62.s0 L N k0_e0 k0_r (f62.l0 L N k0_e0 k0_r n) s0 s1 s2
def f62.T0 (s0:LLB) (s1:LB) (s2:Int):T:=mkT 23 [(0,(.tv (.sl (.sl .bool)) s0)),(1,(.tv (.sl .bool) s1)),(5,(.tv i64 s2))]
def f62.H0 (s0:LLB) (s1:LB) (s2:Int):H:=[]
def f62.T0_e0 (z3:LLB):T:=mkT 23 [(0,(.tv (.sl (.sl .bool)) z3))]
def f62.H0_e0 (z3:LLB):H:=[]
def f62.T0_r (z7:LLB) (z8:Int):T:=mkT 23 [(0,(.tv (.sl (.sl .bool)) z7)),(4,(.tv i64 z8))]
def f62.H0_r (z7:LLB) (z8:Int):H:=[]
def f62.p0_e0' {R:Type} (L N:Nat) (k:Int→Option R) (z3:LLB):Option R:=
 k (z3.length:Int)
def f62.p0_e0 {R:Type} (L N:Nat) (k:Int→Option R) (z3:LLB):Option R:=
 f62.p0_e0' L N k z3
def f62.p0_r' {R:Type} (L N:Nat) (k:Int→Option R) (z7:LLB) (z8:Int):Option R:=
 k z8
def f62.p0_r {R:Type} (L N:Nat) (k:Int→Option R) (z7:LLB) (z8:Int):Option R:=
 f62.p0_r' L N k z7 z8
def f62.b' {R:Type} (L N:Nat) (k:Int→Option R) (w0:LLB→LB→Int→Option R) (x0:LLB) (x1:LB):Option R:=
 w0 x0 x1 (0:Int)
def f62.b {R:Type} (L N:Nat) (k:Int→Option R) (x0:LLB) (x1:LB):Option R:=
 f62.b' L N k (fun s0 s1 s2=>f62.l0 L N (fun z3=>f62.p0_e0 L N k z3) (fun z7 z8=>f62.p0_r L N k z7 z8) L s0 s1 s2) x0 x1
def f62 (L N:Nat) (x0:LLB) (x1:LB):Option (Int):=f62.b L N some x0 x1
def f62.ent (L N:Nat):=entRo [(.sl (.sl .bool)),(.sl .bool)] (.one i64) fun d=>f62 L N d.1 d.2.1
noncomputable def E62 (L N:Nat):Env:={P:=Tryz.prog,ty:=tyOf,Φ:=(Φ91 L N),inl:=inlT,live:=lives,liveX:=livesX,L:=L,dp:=none,prom:=promT,heal:=healT,ren:=renT}
noncomputable def f62.c0:Code:=loopAt 0 (codeOf Tryz.f62)
def f62.X0_e0 {R:Type} (κ:KX R):=fun z3=>κ (.exit 0) (f62.T0_e0 z3) (f62.H0_e0 z3)
def f62.X0_r {R:Type} (κ:KX R):=fun z7 z8=>κ .ret (f62.T0_r z7 z8) (f62.H0_r z7 z8)
def f62.R0 {R:Type} (rec:KT R):=fun s0 s1 s2=>rec (f62.T0 s0 s1 s2) (f62.H0 s0 s1 s2)
theorem f62.s0_eq {R:Type} (L N:Nat) (κ:KX R) (rec:KT R) (s0:LLB) (s1:LB) (s2:Int):
  evRd (E62 L N) (evCallI (E62 L N) 1 2000) 1000 62 23 0 f62.c0 κ rec (f62.T0 s0 s1 s2) (f62.H0 s0 s1 s2)
  =f62.s0 L N (f62.X0_e0 κ) (f62.X0_r κ) (f62.R0 rec) s0 s1 s2:=by kernel_rfl
theorem f62.l0_eq {R:Type} (L N:Nat) (κ:KX R):∀(n:Nat) (s0:LLB) (s1:LB) (s2:Int),
  evLp (E62 L N) (evCallI (E62 L N) 1 2000) 1000 62 23 0 f62.c0 κ n (f62.T0 s0 s1 s2) (f62.H0 s0 s1 s2)
  =f62.l0 L N (f62.X0_e0 κ) (f62.X0_r κ) n s0 s1 s2:=by
 intro n
 induction n with
 |zero=>intros;rfl
 |succ n ih=>
  intro s0 s1 s2
  rw [evLp_succ,f62.s0_eq]
  delta f62.R0
  simp only [ih]
  rfl
theorem f62.p0_e0_eq {R:Type} (L N:Nat) (κ:AV→Option R) (z3:LLB):
  (contAt (E62 L N) (evCallI (E62 L N) 1 2000) 1000 62 23 0 (codeOf Tryz.f62) (finK (E62 L N) 1000 Tryz.f62 (finC (.one i64) κ))) (.exit 0) (f62.T0_e0 z3) (f62.H0_e0 z3)
  =f62.p0_e0 L N (fun a0=>κ (.tv i64 a0)) z3:=by kernel_rfl
theorem f62.p0_r_eq {R:Type} (L N:Nat) (κ:AV→Option R) (z7:LLB) (z8:Int):
  (contAt (E62 L N) (evCallI (E62 L N) 1 2000) 1000 62 23 0 (codeOf Tryz.f62) (finK (E62 L N) 1000 Tryz.f62 (finC (.one i64) κ))) .ret (f62.T0_r z7 z8) (f62.H0_r z7 z8)
  =f62.p0_r L N (fun a0=>κ (.tv i64 a0)) z7 z8:=by kernel_rfl
theorem f62.b_eq {R:Type} (L N:Nat) (κ:AV→Option R) (x0:LLB) (x1:LB):
  evBody (E62 L N) (evCallI (E62 L N) 1 2000) 1000 62 Tryz.f62 [(.tv (.sl (.sl .bool)) x0),(.tv (.sl .bool) x1)] [] [] (finC (.one i64) κ)
  =f62.b L N (fun a0=>κ (.tv i64 a0)) x0 x1:=by
 refine Eq.trans (b:=f62.b' L N (fun a0=>κ (.tv i64 a0)) (fun s0 s1 s2=>evLp (E62 L N) (evCallI (E62 L N) 1 2000) 1000 62 23 0 f62.c0 (contAt (E62 L N) (evCallI (E62 L N) 1 2000) 1000 62 23 0 (codeOf Tryz.f62) (finK (E62 L N) 1000 Tryz.f62 (finC (.one i64) κ))) L (f62.T0 s0 s1 s2) (f62.H0 s0 s1 s2)) x0 x1) (by kernel_rfl) ?_
 unfold f62.b
 simp only [f62.l0_eq]
 delta f62.X0_e0 f62.X0_r
 simp only [f62.p0_e0_eq,f62.p0_r_eq]
theorem f62.ok (L N:Nat) (hΦ:TellsOk Tryz.prog ((Φ91 L N))):EntOk Tryz.prog 62 (f62.ent L N):=entRo_ok (E:=(E62 L N)) (dep:=1000) (f:=Tryz.f62) (sound_of hΦ) okP (callI_sound (sound_of hΦ) okP 1 2000) rfl rfl fun d _ hy=>(f62.b_eq L N (unR (.one i64)) d.1 d.2.1).trans (Eq.trans (b:=f62.b L N some d.1 d.2.1) (by kernel_rfl) hy)
def Φ62 (L N:Nat):Tells:=(addT (Φ91 L N) 62 (f62.ent L N))
theorem Φ62_ok (L N:Nat):TellsOk Tryz.prog (Φ62 L N):=addT_ok (Φ91_ok L N) (f62.ok L N (Φ91_ok L N))
def f98.s0' {R:Type} (L N:Nat) (k0_e0:LLM→LB→Option R) (rec0:Int→LLM→LB→Option R) (s0:Int) (s1:LLM) (s2:LB):Option R:=
 bif (decide (s0<(s2.length:Int))) then
  bif (decide (0≤s0)&&decide (s0<(s2.length:Int))) then
   rec0 (wi (s0+(1:Int))) s1 (s2.set s0.toNat true)
  else none
 else k0_e0 s1 s2
def f98.s0 {R:Type} (L N:Nat) (k0_e0:LLM→LB→Option R) (rec0:Int→LLM→LB→Option R) (s0:Int) (s1:LLM) (s2:LB):Option R:=
 f98.s0' L N k0_e0 rec0 s0 s1 s2
def f98.l0 {R:Type} (L N:Nat) (k0_e0:LLM→LB→Option R):Nat→Int→LLM→LB→Option R
 |0,_,_,_=>none
 |n+1,s0,s1,s2=>f98.s0 L N k0_e0 (f98.l0 L N k0_e0 n) s0 s1 s2
def f98.T0 (s0:Int) (s1:LLM) (s2:LB):T:=mkT 78 [(1,(.ptr 1001 0)),(3,(.row 1012)),(4,(.tv i64 s0))]
def f98.H0 (s0:Int) (s1:LLM) (s2:LB):H:=[(1001,(.box [(.tv (.sl (.sl (.st 0))) s1)])),(1012,(.row 4 .bool s2))]
def f98.T0_e0 (z3:LLM) (z4:LB):T:=mkT 78 [(1,(.ptr 1001 0)),(3,(.row 1012))]
def f98.H0_e0 (z3:LLM) (z4:LB):H:=[(1001,(.box [(.tv (.sl (.sl (.st 0))) z3)])),(1012,(.row 4 .bool z4))]
def f98.s3' {R:Type} (L N:Nat) (k3_e6:Bool→Int→Bool→LLM→LB→Option R) (rec3:Bool→Int→Bool→Int→LLM→LB→Option R) (s16:Bool) (s17:Int) (s18:Bool) (s19:Int) (s20:LLM) (s21:LB):Option R:=
 bif (decide (0≤s17)&&decide (s17<(s20.length:Int))) then
  bif (decide (s19<((listAt s20 [] s17.toNat).length:Int))) then
   bif s18 then
    rec3 s16 s17 true (wi (s19+(1:Int))) s20 s21
   else bif (decide (0≤s17)&&decide (s17<(s20.length:Int))) then
    bif (decide (0≤s19)&&decide (s19<((listAt s20 [] s17.toNat).length:Int))) then
     bif ((listAt (listAt s20 [] s17.toNat) (Ty.dflt (.st 0)) s19.toNat).act==(0:Int)) then
      bif (decide (0≤s17)&&decide (s17<(s20.length:Int))) then
       bif (decide (0≤s19)&&decide (s19<((listAt s20 [] s17.toNat).length:Int))) then
        bif (decide (0≤(listAt (listAt s20 [] s17.toNat) (Ty.dflt (.st 0)) s19.toNat).to)&&decide ((listAt (listAt s20 [] s17.toNat) (Ty.dflt (.st 0)) s19.toNat).to<(s21.length:Int))) then
         rec3 s16 s17 (listAt s21 false ((listAt (listAt s20 [] s17.toNat) (Ty.dflt (.st 0)) s19.toNat).to).toNat) (wi (s19+(1:Int))) s20 s21
        else none
       else none
      else none
     else rec3 s16 s17 false (wi (s19+(1:Int))) s20 s21
    else none
   else none
  else k3_e6 s16 s17 s18 s20 s21
 else none
def f98.s3 {R:Type} (L N:Nat) (k3_e6:Bool→Int→Bool→LLM→LB→Option R) (rec3:Bool→Int→Bool→Int→LLM→LB→Option R) (s16:Bool) (s17:Int) (s18:Bool) (s19:Int) (s20:LLM) (s21:LB):Option R:=
 f98.s3' L N k3_e6 rec3 s16 s17 s18 s19 s20 s21
def f98.l3 {R:Type} (L N:Nat) (k3_e6:Bool→Int→Bool→LLM→LB→Option R):Nat→Bool→Int→Bool→Int→LLM→LB→Option R
 |0,_,_,_,_,_,_=>none
 |n+1,s16,s17,s18,s19,s20,s21=>f98.s3 L N k3_e6 (f98.l3 L N k3_e6 n) s16 s17 s18 s19 s20 s21
def f98.T3 (s16:Bool) (s17:Int) (s18:Bool) (s19:Int) (s20:LLM) (s21:LB):T:=mkT 78 [(1,(.ptr 1001 0)),(3,(.row 1012)),(5,(.tv .bool s16)),(6,(.tv i64 s17)),(7,(.tv .bool s18)),(8,(.tv i64 s19))]
def f98.H3 (s16:Bool) (s17:Int) (s18:Bool) (s19:Int) (s20:LLM) (s21:LB):H:=[(1001,(.box [(.tv (.sl (.sl (.st 0))) s20)])),(1012,(.row 4 .bool s21))]
def f98.T3_e6 (z22:Bool) (z23:Int) (z24:Bool) (z25:LLM) (z26:LB):T:=mkT 78 [(1,(.ptr 1001 0)),(3,(.row 1012)),(5,(.tv .bool z22)),(6,(.tv i64 z23)),(7,(.tv .bool z24))]
def f98.H3_e6 (z22:Bool) (z23:Int) (z24:Bool) (z25:LLM) (z26:LB):H:=[(1001,(.box [(.tv (.sl (.sl (.st 0))) z25)])),(1012,(.row 4 .bool z26))]
def f98.j0' {R:Type} (L N:Nat) (k2_e4:Bool→LLM→LB→Option R) (rec2:Bool→Int→LLM→LB→Option R) (v33:Bool) (v34:Int) (v35:Bool) (v36:LLM) (v37:LB):Option R:=
 bif v35 then
  bif (decide (0≤v34)&&decide (v34<(v37.length:Int))) then
   rec2 true (wi (v34+(1:Int))) v36 (v37.set v34.toNat false)
  else none
 else rec2 v33 (wi (v34+(1:Int))) v36 v37
def f98.p3_e6' {R:Type} (L N:Nat) (k2_e4:Bool→LLM→LB→Option R) (rec2:Bool→Int→LLM→LB→Option R) (z22:Bool) (z23:Int) (z24:Bool) (z25:LLM) (z26:LB):Option R:=
 bif (decide (0≤z23)&&decide (z23<(z26.length:Int))) then
  bif (listAt z26 false z23.toNat) then
   f98.j0' L N k2_e4 rec2 z22 z23 (!z24) z25 z26
  else f98.j0' L N k2_e4 rec2 z22 z23 false z25 z26
 else none
def f98.p3_e6 {R:Type} (L N:Nat) (k2_e4:Bool→LLM→LB→Option R) (rec2:Bool→Int→LLM→LB→Option R) (z22:Bool) (z23:Int) (z24:Bool) (z25:LLM) (z26:LB):Option R:=
 f98.p3_e6' L N k2_e4 rec2 z22 z23 z24 z25 z26
def f98.s2' {R:Type} (L N:Nat) (k2_e4:Bool→LLM→LB→Option R) (rec2:Bool→Int→LLM→LB→Option R) (w3:Bool→Int→Bool→Int→LLM→LB→Option R) (s9:Bool) (s10:Int) (s11:LLM) (s12:LB):Option R:=
 bif (decide (s10<(s12.length:Int))) then
  w3 s9 s10 false (0:Int) s11 s12
 else k2_e4 s9 s11 s12
def f98.s2 {R:Type} (L N:Nat) (k2_e4:Bool→LLM→LB→Option R) (rec2:Bool→Int→LLM→LB→Option R) (s9:Bool) (s10:Int) (s11:LLM) (s12:LB):Option R:=
 f98.s2' L N k2_e4 rec2 (fun s16 s17 s18 s19 s20 s21=>f98.l3 L N (fun z22 z23 z24 z25 z26=>f98.p3_e6 L N k2_e4 rec2 z22 z23 z24 z25 z26) L s16 s17 s18 s19 s20 s21) s9 s10 s11 s12
def f98.l2 {R:Type} (L N:Nat) (k2_e4:Bool→LLM→LB→Option R):Nat→Bool→Int→LLM→LB→Option R
 |0,_,_,_,_=>none
 |n+1,s9,s10,s11,s12=>f98.s2 L N k2_e4 (f98.l2 L N k2_e4 n) s9 s10 s11 s12
def f98.T2 (s9:Bool) (s10:Int) (s11:LLM) (s12:LB):T:=mkT 78 [(1,(.ptr 1001 0)),(3,(.row 1012)),(5,(.tv .bool s9)),(6,(.tv i64 s10))]
def f98.H2 (s9:Bool) (s10:Int) (s11:LLM) (s12:LB):H:=[(1001,(.box [(.tv (.sl (.sl (.st 0))) s11)])),(1012,(.row 4 .bool s12))]
def f98.T2_e4 (z13:Bool) (z14:LLM) (z15:LB):T:=mkT 78 [(1,(.ptr 1001 0)),(3,(.row 1012)),(5,(.tv .bool z13))]
def f98.H2_e4 (z13:Bool) (z14:LLM) (z15:LB):H:=[(1001,(.box [(.tv (.sl (.sl (.st 0))) z14)])),(1012,(.row 4 .bool z15))]
def f98.p2_e4' {R:Type} (L N:Nat) (k1_e2:LB→Option R) (rec1:Bool→LLM→LB→Option R) (z13:Bool) (z14:LLM) (z15:LB):Option R:=
 rec1 z13 z14 z15
def f98.p2_e4 {R:Type} (L N:Nat) (k1_e2:LB→Option R) (rec1:Bool→LLM→LB→Option R) (z13:Bool) (z14:LLM) (z15:LB):Option R:=
 f98.p2_e4' L N k1_e2 rec1 z13 z14 z15
def f98.s1' {R:Type} (L N:Nat) (k1_e2:LB→Option R) (rec1:Bool→LLM→LB→Option R) (w2:Bool→Int→LLM→LB→Option R) (s5:Bool) (s6:LLM) (s7:LB):Option R:=
 bif s5 then
  w2 false (0:Int) s6 s7
 else k1_e2 s7
def f98.s1 {R:Type} (L N:Nat) (k1_e2:LB→Option R) (rec1:Bool→LLM→LB→Option R) (s5:Bool) (s6:LLM) (s7:LB):Option R:=
 f98.s1' L N k1_e2 rec1 (fun s9 s10 s11 s12=>f98.l2 L N (fun z13 z14 z15=>f98.p2_e4 L N k1_e2 rec1 z13 z14 z15) L s9 s10 s11 s12) s5 s6 s7
def f98.l1 {R:Type} (L N:Nat) (k1_e2:LB→Option R):Nat→Bool→LLM→LB→Option R
 |0,_,_,_=>none
 |n+1,s5,s6,s7=>f98.s1 L N k1_e2 (f98.l1 L N k1_e2 n) s5 s6 s7
def f98.T1 (s5:Bool) (s6:LLM) (s7:LB):T:=mkT 78 [(1,(.ptr 1001 0)),(3,(.row 1012)),(5,(.tv .bool s5))]
def f98.H1 (s5:Bool) (s6:LLM) (s7:LB):H:=[(1001,(.box [(.tv (.sl (.sl (.st 0))) s6)])),(1012,(.row 4 .bool s7))]
def f98.T1_e2 (z8:LB):T:=mkT 78 [(3,(.row 1012))]
def f98.H1_e2 (z8:LB):H:=[(1012,(.row 4 .bool z8))]
def f98.p1_e2' {R:Type} (L N:Nat) (k:LB→Option R) (z8:LB):Option R:=
 k z8
def f98.p1_e2 {R:Type} (L N:Nat) (k:LB→Option R) (z8:LB):Option R:=
 f98.p1_e2' L N k z8
def f98.p0_e0' {R:Type} (L N:Nat) (k:LB→Option R) (w1:Bool→LLM→LB→Option R) (z3:LLM) (z4:LB):Option R:=
 w1 true z3 z4
def f98.p0_e0 {R:Type} (L N:Nat) (k:LB→Option R) (z3:LLM) (z4:LB):Option R:=
 f98.p0_e0' L N k (fun s5 s6 s7=>f98.l1 L N (fun z8=>f98.p1_e2 L N k z8) L s5 s6 s7) z3 z4
def f98.b' {R:Type} (L N:Nat) (k:LB→Option R) (w0:Int→LLM→LB→Option R) (x0:Graph):Option R:=
 bif (decide (0≤(x0.moves.length:Int))&&decide ((x0.moves.length:Int)≤(lim:Int))) then
  w0 (0:Int) x0.moves (List.replicate (x0.moves.length:Int).toNat false)
 else none
def f98.b {R:Type} (L N:Nat) (k:LB→Option R) (x0:Graph):Option R:=
 f98.b' L N k (fun s0 s1 s2=>f98.l0 L N (fun z3 z4=>f98.p0_e0 L N k z3 z4) L s0 s1 s2) x0
def f98 (L N:Nat) (x0:Graph):Option (LB):=f98.b L N some x0
def f98.ent (L N:Nat):=entDa [(.st 2)] (.one (.sl .bool)) fun d=>f98 L N d.1
noncomputable def E98 (L N:Nat):Env:={P:=Tryz.prog,ty:=tyOf,Φ:=(Φ62 L N),inl:=inlT,live:=lives,liveX:=livesX,L:=L,dp:=none,prom:=promT,heal:=healT,ren:=renT}
noncomputable def f98.c0:Code:=loopAt 0 (codeOf Tryz.f98)
def f98.X0_e0 {R:Type} (κ:KX R):=fun z3 z4=>κ (.exit 0) (f98.T0_e0 z3 z4) (f98.H0_e0 z3 z4)
def f98.R0 {R:Type} (rec:KT R):=fun s0 s1 s2=>rec (f98.T0 s0 s1 s2) (f98.H0 s0 s1 s2)
theorem f98.s0_eq {R:Type} (L N:Nat) (κ:KX R) (rec:KT R) (s0:Int) (s1:LLM) (s2:LB):
  evRd (E98 L N) (evCallI (E98 L N) 1 2000) 1000 98 78 0 f98.c0 κ rec (f98.T0 s0 s1 s2) (f98.H0 s0 s1 s2)
  =f98.s0 L N (f98.X0_e0 κ) (f98.R0 rec) s0 s1 s2:=by kernel_rfl
theorem f98.l0_eq {R:Type} (L N:Nat) (κ:KX R):∀(n:Nat) (s0:Int) (s1:LLM) (s2:LB),
  evLp (E98 L N) (evCallI (E98 L N) 1 2000) 1000 98 78 0 f98.c0 κ n (f98.T0 s0 s1 s2) (f98.H0 s0 s1 s2)
  =f98.l0 L N (f98.X0_e0 κ) n s0 s1 s2:=by
 intro n
 induction n with
 |zero=>intros;rfl
 |succ n ih=>
  intro s0 s1 s2
  rw [evLp_succ,f98.s0_eq]
  delta f98.R0
  simp only [ih]
  rfl
noncomputable def f98.c1:Code:=loopAt 2 (codeOf Tryz.f98)
noncomputable def f98.c2:Code:=loopAt 4 f98.c1
noncomputable def f98.c3:Code:=loopAt 6 f98.c2
def f98.X3_e6 {R:Type} (κ:KX R):=fun z22 z23 z24 z25 z26=>κ (.exit 6) (f98.T3_e6 z22 z23 z24 z25 z26) (f98.H3_e6 z22 z23 z24 z25 z26)
def f98.R3 {R:Type} (rec:KT R):=fun s16 s17 s18 s19 s20 s21=>rec (f98.T3 s16 s17 s18 s19 s20 s21) (f98.H3 s16 s17 s18 s19 s20 s21)
theorem f98.s3_eq {R:Type} (L N:Nat) (κ:KX R) (rec:KT R) (s16:Bool) (s17:Int) (s18:Bool) (s19:Int) (s20:LLM) (s21:LB):
  evRd (E98 L N) (evCallI (E98 L N) 1 2000) 1000 98 78 6 f98.c3 κ rec (f98.T3 s16 s17 s18 s19 s20 s21) (f98.H3 s16 s17 s18 s19 s20 s21)
  =f98.s3 L N (f98.X3_e6 κ) (f98.R3 rec) s16 s17 s18 s19 s20 s21:=by kernel_rfl
theorem f98.l3_eq {R:Type} (L N:Nat) (κ:KX R):∀(n:Nat) (s16:Bool) (s17:Int) (s18:Bool) (s19:Int) (s20:LLM) (s21:LB),
  evLp (E98 L N) (evCallI (E98 L N) 1 2000) 1000 98 78 6 f98.c3 κ n (f98.T3 s16 s17 s18 s19 s20 s21) (f98.H3 s16 s17 s18 s19 s20 s21)
  =f98.l3 L N (f98.X3_e6 κ) n s16 s17 s18 s19 s20 s21:=by
 intro n
 induction n with
 |zero=>intros;rfl
 |succ n ih=>
  intro s16 s17 s18 s19 s20 s21
  rw [evLp_succ,f98.s3_eq]
  delta f98.R3
  simp only [ih]
  rfl
def f98.X2_e4 {R:Type} (κ:KX R):=fun z13 z14 z15=>κ (.exit 4) (f98.T2_e4 z13 z14 z15) (f98.H2_e4 z13 z14 z15)
def f98.R2 {R:Type} (rec:KT R):=fun s9 s10 s11 s12=>rec (f98.T2 s9 s10 s11 s12) (f98.H2 s9 s10 s11 s12)
theorem f98.p3_e6_eq {R:Type} (L N:Nat) (κ:KX R) (rec:KT R) (z22:Bool) (z23:Int) (z24:Bool) (z25:LLM) (z26:LB):
  (contAt (E98 L N) (evCallI (E98 L N) 1 2000) 1000 98 78 6 f98.c2 (rdK (E98 L N) 1000 98 78 4 κ rec)) (.exit 6) (f98.T3_e6 z22 z23 z24 z25 z26) (f98.H3_e6 z22 z23 z24 z25 z26)
  =f98.p3_e6 L N (f98.X2_e4 κ) (f98.R2 rec) z22 z23 z24 z25 z26:=by kernel_rfl
theorem f98.s2_eq {R:Type} (L N:Nat) (κ:KX R) (rec:KT R) (s9:Bool) (s10:Int) (s11:LLM) (s12:LB):
  evRd (E98 L N) (evCallI (E98 L N) 1 2000) 1000 98 78 4 f98.c2 κ rec (f98.T2 s9 s10 s11 s12) (f98.H2 s9 s10 s11 s12)
  =f98.s2 L N (f98.X2_e4 κ) (f98.R2 rec) s9 s10 s11 s12:=by
 refine Eq.trans (b:=f98.s2' L N (f98.X2_e4 κ) (f98.R2 rec) (fun s16 s17 s18 s19 s20 s21=>evLp (E98 L N) (evCallI (E98 L N) 1 2000) 1000 98 78 6 f98.c3 (contAt (E98 L N) (evCallI (E98 L N) 1 2000) 1000 98 78 6 f98.c2 (rdK (E98 L N) 1000 98 78 4 κ rec)) L (f98.T3 s16 s17 s18 s19 s20 s21) (f98.H3 s16 s17 s18 s19 s20 s21)) s9 s10 s11 s12) (by kernel_rfl) ?_
 unfold f98.s2
 simp only [f98.l3_eq]
 delta f98.X3_e6
 simp only [f98.p3_e6_eq]
theorem f98.l2_eq {R:Type} (L N:Nat) (κ:KX R):∀(n:Nat) (s9:Bool) (s10:Int) (s11:LLM) (s12:LB),
  evLp (E98 L N) (evCallI (E98 L N) 1 2000) 1000 98 78 4 f98.c2 κ n (f98.T2 s9 s10 s11 s12) (f98.H2 s9 s10 s11 s12)
  =f98.l2 L N (f98.X2_e4 κ) n s9 s10 s11 s12:=by
 intro n
 induction n with
 |zero=>intros;rfl
 |succ n ih=>
  intro s9 s10 s11 s12
  rw [evLp_succ,f98.s2_eq]
  delta f98.R2
  simp only [ih]
  rfl
def f98.X1_e2 {R:Type} (κ:KX R):=fun z8=>κ (.exit 2) (f98.T1_e2 z8) (f98.H1_e2 z8)
def f98.R1 {R:Type} (rec:KT R):=fun s5 s6 s7=>rec (f98.T1 s5 s6 s7) (f98.H1 s5 s6 s7)
theorem f98.p2_e4_eq {R:Type} (L N:Nat) (κ:KX R) (rec:KT R) (z13:Bool) (z14:LLM) (z15:LB):
  (contAt (E98 L N) (evCallI (E98 L N) 1 2000) 1000 98 78 4 f98.c1 (rdK (E98 L N) 1000 98 78 2 κ rec)) (.exit 4) (f98.T2_e4 z13 z14 z15) (f98.H2_e4 z13 z14 z15)
  =f98.p2_e4 L N (f98.X1_e2 κ) (f98.R1 rec) z13 z14 z15:=by kernel_rfl
theorem f98.s1_eq {R:Type} (L N:Nat) (κ:KX R) (rec:KT R) (s5:Bool) (s6:LLM) (s7:LB):
  evRd (E98 L N) (evCallI (E98 L N) 1 2000) 1000 98 78 2 f98.c1 κ rec (f98.T1 s5 s6 s7) (f98.H1 s5 s6 s7)
  =f98.s1 L N (f98.X1_e2 κ) (f98.R1 rec) s5 s6 s7:=by
 refine Eq.trans (b:=f98.s1' L N (f98.X1_e2 κ) (f98.R1 rec) (fun s9 s10 s11 s12=>evLp (E98 L N) (evCallI (E98 L N) 1 2000) 1000 98 78 4 f98.c2 (contAt (E98 L N) (evCallI (E98 L N) 1 2000) 1000 98 78 4 f98.c1 (rdK (E98 L N) 1000 98 78 2 κ rec)) L (f98.T2 s9 s10 s11 s12) (f98.H2 s9 s10 s11 s12)) s5 s6 s7) (by kernel_rfl) ?_
 unfold f98.s1
 simp only [f98.l2_eq]
 delta f98.X2_e4
 simp only [f98.p2_e4_eq]
theorem f98.l1_eq {R:Type} (L N:Nat) (κ:KX R):∀(n:Nat) (s5:Bool) (s6:LLM) (s7:LB),
  evLp (E98 L N) (evCallI (E98 L N) 1 2000) 1000 98 78 2 f98.c1 κ n (f98.T1 s5 s6 s7) (f98.H1 s5 s6 s7)
  =f98.l1 L N (f98.X1_e2 κ) n s5 s6 s7:=by
 intro n
 induction n with
 |zero=>intros;rfl
 |succ n ih=>
  intro s5 s6 s7
  rw [evLp_succ,f98.s1_eq]
  delta f98.R1
  simp only [ih]
  rfl
theorem f98.p1_e2_eq {R:Type} (L N:Nat) (κ:AV→Option R) (z8:LB):
  (contAt (E98 L N) (evCallI (E98 L N) 1 2000) 1000 98 78 2 (codeOf Tryz.f98) (finK (E98 L N) 1000 Tryz.f98 (finC (.one (.sl .bool)) κ))) (.exit 2) (f98.T1_e2 z8) (f98.H1_e2 z8)
  =f98.p1_e2 L N (fun a0=>κ (.tv (.sl .bool) a0)) z8:=by kernel_rfl
theorem f98.p0_e0_eq {R:Type} (L N:Nat) (κ:AV→Option R) (z3:LLM) (z4:LB):
  (contAt (E98 L N) (evCallI (E98 L N) 1 2000) 1000 98 78 0 (codeOf Tryz.f98) (finK (E98 L N) 1000 Tryz.f98 (finC (.one (.sl .bool)) κ))) (.exit 0) (f98.T0_e0 z3 z4) (f98.H0_e0 z3 z4)
  =f98.p0_e0 L N (fun a0=>κ (.tv (.sl .bool) a0)) z3 z4:=by
 refine Eq.trans (b:=f98.p0_e0' L N (fun a0=>κ (.tv (.sl .bool) a0)) (fun s5 s6 s7=>evLp (E98 L N) (evCallI (E98 L N) 1 2000) 1000 98 78 2 f98.c1 (contAt (E98 L N) (evCallI (E98 L N) 1 2000) 1000 98 78 2 (codeOf Tryz.f98) (finK (E98 L N) 1000 Tryz.f98 (finC (.one (.sl .bool)) κ))) L (f98.T1 s5 s6 s7) (f98.H1 s5 s6 s7)) z3 z4) (by kernel_rfl) ?_
 unfold f98.p0_e0
 simp only [f98.l1_eq]
 delta f98.X1_e2
 simp only [f98.p1_e2_eq]
theorem f98.b_eq {R:Type} (L N:Nat) (κ:AV→Option R) (x0:Graph):
  evBody (E98 L N) (evCallI (E98 L N) 1 2000) 1000 98 Tryz.f98 [(.tv (.st 2) x0)] [] [] (finC (.one (.sl .bool)) κ)
  =f98.b L N (fun a0=>κ (.tv (.sl .bool) a0)) x0:=by
 refine Eq.trans (b:=f98.b' L N (fun a0=>κ (.tv (.sl .bool) a0)) (fun s0 s1 s2=>evLp (E98 L N) (evCallI (E98 L N) 1 2000) 1000 98 78 0 f98.c0 (contAt (E98 L N) (evCallI (E98 L N) 1 2000) 1000 98 78 0 (codeOf Tryz.f98) (finK (E98 L N) 1000 Tryz.f98 (finC (.one (.sl .bool)) κ))) L (f98.T0 s0 s1 s2) (f98.H0 s0 s1 s2)) x0) (by kernel_rfl) ?_
 unfold f98.b
 simp only [f98.l0_eq]
 delta f98.X0_e0
 simp only [f98.p0_e0_eq]
theorem f98.ok (L N:Nat) (hΦ:TellsOk Tryz.prog ((Φ62 L N))):EntOk Tryz.prog 98 (f98.ent L N):=entDa_ok (E:=(E98 L N)) (dep:=1000) (f:=Tryz.f98) (sound_of hΦ) okP (callI_sound (sound_of hΦ) okP 1 2000) rfl fun d _ hy=>(f98.b_eq L N (unR (.one (.sl .bool))) d.1).trans (Eq.trans (b:=f98.b L N some d.1) (by kernel_rfl) hy)
def Φ98 (L N:Nat):Tells:=(addT (Φ62 L N) 98 (f98.ent L N))
theorem Φ98_ok (L N:Nat):TellsOk Tryz.prog (Φ98 L N):=addT_ok (Φ62_ok L N) (f98.ok L N (Φ62_ok L N))
def f99.s1' {R:Type} (L N:Nat) (k1_e2:Int→LLM→LI→LB→Option R) (rec1:Int→LM→Int→LLM→LI→LB→Option R) (s5:Int) (s6:LM) (s7:Int) (s8:LLM) (s9:LI) (s10:LB):Option R:=
 bif (decide (s7<(s6.length:Int))) then
  bif (decide (0≤s7)&&decide (s7<(s6.length:Int))) then
   bif (decide (0≤(listAt s6 (Ty.dflt (.st 0)) s7.toNat).to)&&decide ((listAt s6 (Ty.dflt (.st 0)) s7.toNat).to<(s10.length:Int))) then
    bif (!(listAt s10 false ((listAt s6 (Ty.dflt (.st 0)) s7.toNat).to).toNat)) then
     bif (decide (0≤s7)&&decide (s7<(s6.length:Int))) then
      bif (decide (0≤(listAt s6 (Ty.dflt (.st 0)) s7.toNat).to)&&decide ((listAt s6 (Ty.dflt (.st 0)) s7.toNat).to<(s10.length:Int))) then
       bif (decide (0≤s7)&&decide (s7<(s6.length:Int))) then
        bif (decide (s9.length+([(listAt s6 (Ty.dflt (.st 0)) s7.toNat).to]:LI).length≤lim)) then
         rec1 s5 s6 (wi (s7+(1:Int))) s8 (s9++([(listAt s6 (Ty.dflt (.st 0)) s7.toNat).to]:LI)) (s10.set (((listAt s6 (Ty.dflt (.st 0)) s7.toNat).to).toNat) true)
        else none
       else none
      else none
     else none
    else rec1 s5 s6 (wi (s7+(1:Int))) s8 s9 s10
   else none
  else none
 else k1_e2 s5 s8 s9 s10
def f99.s1 {R:Type} (L N:Nat) (k1_e2:Int→LLM→LI→LB→Option R) (rec1:Int→LM→Int→LLM→LI→LB→Option R) (s5:Int) (s6:LM) (s7:Int) (s8:LLM) (s9:LI) (s10:LB):Option R:=
 f99.s1' L N k1_e2 rec1 s5 s6 s7 s8 s9 s10
def f99.l1 {R:Type} (L N:Nat) (k1_e2:Int→LLM→LI→LB→Option R):Nat→Int→LM→Int→LLM→LI→LB→Option R
 |0,_,_,_,_,_,_=>none
 |n+1,s5,s6,s7,s8,s9,s10=>f99.s1 L N k1_e2 (f99.l1 L N k1_e2 n) s5 s6 s7 s8 s9 s10
def f99.T1 (s5:Int) (s6:LM) (s7:Int) (s8:LLM) (s9:LI) (s10:LB):T:=mkT 64 [(2,(.ptr 1002 0)),(5,(.row 1011)),(6,(.row 1015)),(7,(.tv i64 s5)),(8,(.tv (.sl (.st 0)) s6)),(9,(.tv i64 s7))]
end Go.Proofs.YtffkhhblppfbfaaGreatDoor.Ev
