/- The seat's functions as plain functions: made by program (wip/gen/gen.py). -/
import Derived.Test.YtfdcjocallblcaaGreatDoorEvYa
import Derived.Test.YtfdcjocallblcaaGreatDoorShelf
import Derived.Test.YtfdcjocallblcaaGreatDoorEvMut
import Derived.Test.YtfdcjocallblcaaGreatDoorEvMut2
namespace Go.Proofs.YtfdcjocallblcaaGreatDoor.Ev
open Go
set_option linter.unusedVariables false
set_option maxRecDepth 20000
def tyTab:List (Nat×Ty):=[(2,i64),(3,i64),(4,.bool),(5,(.int .u8)),(6,(.int .u8)),(9,.str),(10,.str),(11,.str),(12,(.int .u64)),(21,(.int .i32)),(22,(.sl i64)),(23,(.sl (.sl (.st 0)))),(24,(.st 2)),(25,(.st 2)),(31,(.sl (.st 1))),(32,(.st 1)),(33,(.st 1)),(43,(.sl (.st 0))),(44,(.st 0)),(45,(.st 0)),(52,(.sl (.sl i64))),(62,(.sl .bool)),(71,(.st 4)),(74,(.sl (.int .u8))),(80,(.sl (.sl .bool))),(85,(.sl (.st 4))),(90,(.int .u64)),(94,i64),(101,(.int .u32)),(103,(.int .u64)),(112,(.int .u64)),(140,(.int .u8)),(141,(.int .u8)),(144,(.int .i32)),(145,(.int .i32))]
def tyOf (t:Nat):Option Ty:=tyFind t tyTab
def lives (f i:Nat):List Nat×List Nat:=
 bif Nat.beq f 3&&Nat.beq i 0 then ([2,3,9,10,12,13,14,15,16,17],[9,12,34,69,71]) else
 bif Nat.beq f 4&&Nat.beq i 0 then ([0,1,4,5,6],[4,5,17]) else
 bif Nat.beq f 4&&Nat.beq i 2 then ([0,4,5,7],[4,5,17]) else
 bif Nat.beq f 6&&Nat.beq i 0 then ([1,18,19,20],[1]) else
 bif Nat.beq f 6&&Nat.beq i 2 then ([1,4,18,19,20,24,25,26],[1]) else
 bif Nat.beq f 7&&Nat.beq i 0 then ([1,3],[1]) else
 bif Nat.beq f 7&&Nat.beq i 2 then ([1,3,4],[1]) else
 bif Nat.beq f 8&&Nat.beq i 0 then ([0,1,5],[]) else
 bif Nat.beq f 14&&Nat.beq i 0 then ([1,2,4,5,21,22,23],[1,2,19,20]) else
 bif Nat.beq f 14&&Nat.beq i 2 then ([1,2,4,5,8,37,38,39],[1,2,8,19,20,920]) else
 bif Nat.beq f 14&&Nat.beq i 4 then ([1,2,4,5,8,11,37,38,39,48,49,50],[1,2,8,19,20,43,920]) else
 bif Nat.beq f 15&&Nat.beq i 0 then ([0,1,5],[]) else
 bif Nat.beq f 15&&Nat.beq i 2 then ([0,1,5,6],[]) else
 bif Nat.beq f 16&&Nat.beq i 0 then ([5,20,21,22],[8]) else
 bif Nat.beq f 17&&Nat.beq i 0 then ([0,1,5],[]) else
 bif Nat.beq f 20&&Nat.beq i 0 then ([0,3,4],[7]) else
 bif Nat.beq f 20&&Nat.beq i 2 then ([0,3,4,5],[7]) else
 bif Nat.beq f 20&&Nat.beq i 4 then ([0,3,4,5,6],[7]) else
 bif Nat.beq f 31&&Nat.beq i 0 then ([1,2,3,4,8,10],[4,8]) else
 bif Nat.beq f 31&&Nat.beq i 2 then ([1,2,3,4,8,11,54,55,56],[4,8]) else
 bif Nat.beq f 31&&Nat.beq i 4 then ([1,2,3,4,8,11,13,14,15,54,55,56,65,66,67],[4,8,13,60]) else
 bif Nat.beq f 31&&Nat.beq i 6 then ([1,4,8,13,18,19,98,99,100],[4,8,13,18,60]) else
 bif Nat.beq f 32&&Nat.beq i 0 then ([3,5],[3,10]) else
 bif Nat.beq f 34&&Nat.beq i 0 then ([1,2,3,7,8,9,10],[3,13,14,18]) else
 bif Nat.beq f 34&&Nat.beq i 2 then ([1,2,3,7,8,9,10,32,33,34],[3,13,14,18]) else
 bif Nat.beq f 36&&Nat.beq i 0 then ([1,2,3,4,18,19],[1,2,4,900,901]) else
 bif Nat.beq f 36&&Nat.beq i 2 then ([1,2,3,4,6,18,19,26,27,28],[1,2,4,22,900,901]) else
 bif Nat.beq f 36&&Nat.beq i 4 then ([1,2,3,4,6,18,19,26,27,28,41,42,43],[1,2,4,22,900,901]) else
 bif Nat.beq f 36&&Nat.beq i 6 then ([1,2,3,4,6,10,18,19,26,27,28,41,42,43,54,55,56],[1,2,4,10,22,900,901]) else
 bif Nat.beq f 37&&Nat.beq i 0 then ([0,1,7,8],[]) else
 bif Nat.beq f 40&&Nat.beq i 0 then ([2,3,5,6,18,19,20],[2,3,15,16]) else
 bif Nat.beq f 40&&Nat.beq i 2 then ([2,3,5,6,32,33],[2,3,15,16]) else
 bif Nat.beq f 40&&Nat.beq i 5 then ([2,3,5,6,9,32,33,42,43,44],[2,3,15,16]) else
 bif Nat.beq f 41&&Nat.beq i 0 then ([1,2,6,8,9,10,11],[6,10,22,23,900,901]) else
 bif Nat.beq f 41&&Nat.beq i 2 then ([1,2,6,8,9,10,11,12,15,49,50,51],[6,10,22,23,48,900,901]) else
 bif Nat.beq f 42&&Nat.beq i 0 then ([2,5,11,12,13],[2,10]) else
 bif Nat.beq f 43&&Nat.beq i 0 then ([3,6,7,8],[]) else
 bif Nat.beq f 44&&Nat.beq i 0 then ([0,1,6,7,14,15,16],[13]) else
 bif Nat.beq f 45&&Nat.beq i 0 then ([2,5,11,12,13],[2,10]) else
 bif Nat.beq f 45&&Nat.beq i 2 then ([2,5,11,12,13,21,22,23],[2,10]) else
 bif Nat.beq f 46&&Nat.beq i 0 then ([2,3,7,13,14,15],[3,12]) else
 bif Nat.beq f 46&&Nat.beq i 2 then ([2,3,7,13,14,15,23,24,25],[3,12]) else
 bif Nat.beq f 47&&Nat.beq i 0 then ([2,3,4,5,9,10,11],[4,5,22,23]) else
 bif Nat.beq f 47&&Nat.beq i 2 then ([2,3,4,5,9,10,11,12,60,61,62],[4,5,12,22,23]) else
 bif Nat.beq f 50&&Nat.beq i 0 then ([1,3],[1,9]) else
 bif Nat.beq f 51&&Nat.beq i 0 then ([0,6,14,15,16],[9]) else
 bif Nat.beq f 52&&Nat.beq i 0 then ([1,5,9,10,11],[]) else
 bif Nat.beq f 53&&Nat.beq i 0 then ([0,1,5,6,16,17],[11,14]) else
 bif Nat.beq f 53&&Nat.beq i 2 then ([0,1,5,6,7,8,16,17],[11,14]) else
 bif Nat.beq f 55&&Nat.beq i 0 then ([0,1,12,13],[]) else
 bif Nat.beq f 56&&Nat.beq i 0 then ([1,3,8,9],[1,5]) else
 bif Nat.beq f 59&&Nat.beq i 1 then ([38,39,40],[]) else
 bif Nat.beq f 60&&Nat.beq i 0 then ([2,5,6,17,18,19],[2,15,16]) else
 bif Nat.beq f 60&&Nat.beq i 2 then ([2,5,6,9],[2,15,16]) else
 bif Nat.beq f 60&&Nat.beq i 4 then ([2,5,6,9,49,50,51],[2,15,16]) else
 bif Nat.beq f 65&&Nat.beq i 0 then ([1,2,5,6],[2,9]) else
 bif Nat.beq f 65&&Nat.beq i 2 then ([1,2,5,6,7,8],[2,9]) else
 bif Nat.beq f 66&&Nat.beq i 0 then ([0,1,5],[]) else
 bif Nat.beq f 67&&Nat.beq i 0 then ([0,1,12,13],[]) else
 bif Nat.beq f 72&&Nat.beq i 0 then ([1,2,3,4,9],[4]) else
 bif Nat.beq f 93&&Nat.beq i 0 then ([1,2,3,4,5,11],[5]) else
 ([],[])
def livesX (f i:Nat):List Nat×List Nat:=
 bif Nat.beq f 3&&Nat.beq i 0 then ([2,3,9,10,12,13,14,15,16],[9,12,34,69,71]) else
 bif Nat.beq f 4&&Nat.beq i 0 then ([0,4,5],[4,5,17]) else
 bif Nat.beq f 4&&Nat.beq i 2 then ([4,5],[4,5,17]) else
 bif Nat.beq f 6&&Nat.beq i 0 then ([2],[]) else
 bif Nat.beq f 6&&Nat.beq i 2 then ([1,2,18,19,20],[1]) else
 bif Nat.beq f 7&&Nat.beq i 0 then ([2],[]) else
 bif Nat.beq f 7&&Nat.beq i 2 then ([1,2,3],[1]) else
 bif Nat.beq f 8&&Nat.beq i 0 then ([4],[]) else
 bif Nat.beq f 14&&Nat.beq i 0 then ([1,2,4,5],[1,2,19,20]) else
 bif Nat.beq f 14&&Nat.beq i 2 then ([2,8],[2,8,920]) else
 bif Nat.beq f 14&&Nat.beq i 4 then ([1,2,4,5,8,11,37,38,39],[1,2,8,19,20,43,920]) else
 bif Nat.beq f 15&&Nat.beq i 0 then ([4],[]) else
 bif Nat.beq f 15&&Nat.beq i 2 then ([0,1,4,5],[]) else
 bif Nat.beq f 16&&Nat.beq i 0 then ([5],[8]) else
 bif Nat.beq f 17&&Nat.beq i 0 then ([4],[]) else
 bif Nat.beq f 20&&Nat.beq i 0 then ([3],[7]) else
 bif Nat.beq f 20&&Nat.beq i 2 then ([0,3,4,5],[7]) else
 bif Nat.beq f 20&&Nat.beq i 4 then ([0,3,4,5],[7]) else
 bif Nat.beq f 31&&Nat.beq i 0 then ([1,2,3,4,8,10],[4,8]) else
 bif Nat.beq f 31&&Nat.beq i 2 then ([1,2,3,4,8,9],[4,8]) else
 bif Nat.beq f 31&&Nat.beq i 4 then ([1,2,3,4,8,11,13,14,15,54,55,56],[4,8,13,60]) else
 bif Nat.beq f 31&&Nat.beq i 6 then ([8,9,13,18],[8,13,18]) else
 bif Nat.beq f 32&&Nat.beq i 0 then ([4],[10]) else
 bif Nat.beq f 34&&Nat.beq i 0 then ([7],[13]) else
 bif Nat.beq f 34&&Nat.beq i 2 then ([1,2,3,7,8,9,10],[3,13,14,18]) else
 bif Nat.beq f 36&&Nat.beq i 0 then ([2,4],[2,4,900,901]) else
 bif Nat.beq f 36&&Nat.beq i 2 then ([1,2,3,4,6,18,19],[1,2,4,22,900,901]) else
 bif Nat.beq f 36&&Nat.beq i 4 then ([1,2,3,4,6,18,19,26,27,28],[1,2,4,22,900,901]) else
 bif Nat.beq f 36&&Nat.beq i 6 then ([1,2,3,4,6,18,19,26,27,28,41,42,43],[1,2,4,22,900,901]) else
 bif Nat.beq f 37&&Nat.beq i 0 then ([4],[]) else
 bif Nat.beq f 40&&Nat.beq i 0 then ([2,3,5,6],[2,3,15,16]) else
 bif Nat.beq f 40&&Nat.beq i 2 then ([5],[15]) else
 bif Nat.beq f 40&&Nat.beq i 5 then ([2,3,5,6,32,33],[2,3,15,16]) else
 bif Nat.beq f 41&&Nat.beq i 0 then ([6,7,10],[6,10,900,901]) else
 bif Nat.beq f 41&&Nat.beq i 2 then ([1,2,6,7,8,9,10,11,15],[6,10,22,23,48,900,901]) else
 bif Nat.beq f 42&&Nat.beq i 0 then ([5],[10]) else
 bif Nat.beq f 43&&Nat.beq i 0 then ([3],[]) else
 bif Nat.beq f 44&&Nat.beq i 0 then ([6,7],[13]) else
 bif Nat.beq f 45&&Nat.beq i 0 then ([5],[10]) else
 bif Nat.beq f 45&&Nat.beq i 2 then ([2,5,11,12,13],[2,10]) else
 bif Nat.beq f 46&&Nat.beq i 0 then ([3,7],[3,12]) else
 bif Nat.beq f 46&&Nat.beq i 2 then ([2,3,7,13,14,15],[3,12]) else
 bif Nat.beq f 47&&Nat.beq i 0 then ([8],[]) else
 bif Nat.beq f 47&&Nat.beq i 2 then ([2,3,4,5,8,9,10,11],[4,5,22,23,81]) else
 bif Nat.beq f 50&&Nat.beq i 0 then ([2],[9]) else
 bif Nat.beq f 51&&Nat.beq i 0 then ([6],[9]) else
 bif Nat.beq f 52&&Nat.beq i 0 then ([4,5],[]) else
 bif Nat.beq f 53&&Nat.beq i 0 then ([5],[11]) else
 bif Nat.beq f 53&&Nat.beq i 2 then ([0,1,5,6,16,17],[11,14]) else
 bif Nat.beq f 55&&Nat.beq i 0 then ([4],[]) else
 bif Nat.beq f 56&&Nat.beq i 0 then ([3],[5]) else
 bif Nat.beq f 59&&Nat.beq i 1 then ([2],[]) else
 bif Nat.beq f 60&&Nat.beq i 0 then ([2,5,6],[2,15,16]) else
 bif Nat.beq f 60&&Nat.beq i 2 then ([6],[16]) else
 bif Nat.beq f 60&&Nat.beq i 4 then ([2,5,6,9],[2,15,16]) else
 bif Nat.beq f 65&&Nat.beq i 0 then ([5],[9]) else
 bif Nat.beq f 65&&Nat.beq i 2 then ([1,2,5,6,7],[2,9]) else
 bif Nat.beq f 66&&Nat.beq i 0 then ([4],[]) else
 bif Nat.beq f 67&&Nat.beq i 0 then ([4],[]) else
 bif Nat.beq f 72&&Nat.beq i 0 then ([8],[]) else
 bif Nat.beq f 93&&Nat.beq i 0 then ([10],[]) else
 ([],[])
def promT (f i:Nat):List (Nat×Nat×Nat×Option Nat×Nat×Ty):=
 bif Nat.beq f 14&&Nat.beq i 2 then [(8,0,920,none,43,(.sl (.st 0)))] else
 bif Nat.beq f 36&&Nat.beq i 0 then [(2,0,900,(some 0),0,(.sl (.st 0))),(4,0,901,(some 0),0,(.sl (.st 0)))] else
 bif Nat.beq f 41&&Nat.beq i 0 then [(6,0,900,(some 0),0,(.sl (.st 0))),(10,0,901,(some 0),0,(.sl (.st 0)))] else
 []
def healT (f i:Nat):List Nat:=
 []
def renT (f i:Nat):List (Nat×Nat):=
 bif Nat.beq f 42&&Nat.beq i 0 then [(10,20)] else
 []
def inlT (f:Nat):Bool:=memN f [48]
theorem okP:OkP Tryz.prog:=OkP.mk' (by kernel_rfl) (by kernel_rfl)
def Φx (L N:Nat):Tells:=addT (addT (addT (addT (addT noTells 62 sortEnt) 38 tidyEnt) 35 (cloneEnt 3)) 63 compactEnt) 61 itoaEnt
theorem Φx_ok (L N:Nat):TellsOk Tryz.prog (Φx L N):=addT_ok (addT_ok (addT_ok (addT_ok (addT_ok (no_ok _) (sort_ok ⟨Tryz.f62,rfl,by kernel_rfl,by kernel_rfl⟩ sortC sortNone)) (tidy_ok ⟨Tryz.f38,rfl,by kernel_rfl,by kernel_rfl⟩ tidyC tidyNone)) (clone_ok ⟨Tryz.f35,rfl,by kernel_rfl,by kernel_rfl⟩ cloneC cloneZero cloneNil)) (compact_ok ⟨Tryz.f63,rfl,by kernel_rfl,by kernel_rfl⟩ compactC compactNone)) (itoa_ok ⟨Tryz.f61,rfl,by kernel_rfl,by kernel_rfl⟩ itoaC)
def f26.b' {R:Type} (L N:Nat) (k:Bool→Option R) (x0:Move) (x1:Move):Option R:=
 bif (decide (x0.act<x1.act)) then
  k true
 else bif (x0.act==x1.act) then
  k (decide (x0.to<x1.to))
 else k false
def f26.b {R:Type} (L N:Nat) (k:Bool→Option R) (x0:Move) (x1:Move):Option R:=
 f26.b' L N k x0 x1
def f26 (L N:Nat) (x0:Move) (x1:Move):Option (Bool):=f26.b L N some x0 x1
def f26.ent (L N:Nat):=entRo [(.st 0),(.st 0)] (.one .bool) fun d=>f26 L N d.1 d.2.1
noncomputable def E26 (L N:Nat):Env:={P:=Tryz.prog,ty:=tyOf,Φ:=(Φx L N),inl:=inlT,live:=lives,liveX:=livesX,L:=L,dp:=none,prom:=promT,heal:=healT,ren:=renT}
theorem f26.b_eq {R:Type} (L N:Nat) (κ:AV→Option R) (x0:Move) (x1:Move):
  evBody (E26 L N) (evCallI (E26 L N) 1 2000) 1000 26 Tryz.f26 [(.tv (.st 0) x0),(.tv (.st 0) x1)] [] [] (finC (.one .bool) κ)
  =f26.b L N (fun a0=>κ (.tv .bool a0)) x0 x1:=by kernel_rfl
theorem f26.ok (L N:Nat) (hΦ:TellsOk Tryz.prog ((Φx L N))):EntOk Tryz.prog 26 (f26.ent L N):=entRo_ok (E:=(E26 L N)) (dep:=1000) (f:=Tryz.f26) (sound_of hΦ) okP (callI_sound (sound_of hΦ) okP 1 2000) rfl rfl fun d _ hy=>(f26.b_eq L N (unR (.one .bool)) d.1 d.2.1).trans (Eq.trans (b:=f26.b L N some d.1 d.2.1) (by kernel_rfl) hy)
def Φ26 (L N:Nat):Tells:=(addT (Φx L N) 26 (f26.ent L N))
theorem Φ26_ok (L N:Nat):TellsOk Tryz.prog (Φ26 L N):=addT_ok (Φx_ok L N) (f26.ok L N (Φx_ok L N))
def f20.s1' {R:Type} (L N:Nat) (k1_e2:LM→Int→Int→LM→Option R) (rec1:LM→Int→Int→LM→Option R) (s4:LM) (s5:Int) (s6:Int) (s7:LM):Option R:=
 bif (decide (s6>(0:Int))) then
  bif (decide (0≤s5)&&decide (s5<(s4.length:Int))) then
   bif (decide (0≤(wi (s6-(1:Int))))&&decide ((wi (s6-(1:Int)))<(s7.length:Int))) then
    (f26 L N (listAt s4 (Ty.dflt (.st 0)) s5.toNat) (listAt s7 (Ty.dflt (.st 0)) (wi (s6-(1:Int))).toNat)).bind fun y8=>
    bif y8 then
     rec1 s4 s5 (wi (s6-(1:Int))) s7
    else k1_e2 s4 s5 s6 s7
   else none
  else none
 else k1_e2 s4 s5 s6 s7
def f20.s1 {R:Type} (L N:Nat) (k1_e2:LM→Int→Int→LM→Option R) (rec1:LM→Int→Int→LM→Option R) (s4:LM) (s5:Int) (s6:Int) (s7:LM):Option R:=
 f20.s1' L N k1_e2 rec1 s4 s5 s6 s7
def f20.l1 {R:Type} (L N:Nat) (k1_e2:LM→Int→Int→LM→Option R):Nat→LM→Int→Int→LM→Option R
 |0,_,_,_,_=>none
 |n+1,s4,s5,s6,s7=>f20.s1 L N k1_e2 (f20.l1 L N k1_e2 n) s4 s5 s6 s7
def f20.T1 (s4:LM) (s5:Int) (s6:Int) (s7:LM):T:=mkT 74 [(0,(.tv (.sl (.st 0)) s4)),(3,(.row 1007)),(4,(.tv i64 s5)),(5,(.tv i64 s6))]
def f20.H1 (s4:LM) (s5:Int) (s6:Int) (s7:LM):H:=[(1007,(.row 45 (.st 0) s7))]
def f20.T1_e2 (z14:LM) (z15:Int) (z16:Int) (z17:LM):T:=mkT 74 [(0,(.tv (.sl (.st 0)) z14)),(3,(.row 1007)),(4,(.tv i64 z15)),(5,(.tv i64 z16))]
def f20.H1_e2 (z14:LM) (z15:Int) (z16:Int) (z17:LM):H:=[(1007,(.row 45 (.st 0) z17))]
def f20.s2' {R:Type} (L N:Nat) (k2_e4:LM→Int→Int→LM→Option R) (rec2:LM→Int→Int→Int→LM→Option R) (s31:LM) (s32:Int) (s33:Int) (s34:Int) (s35:LM):Option R:=
 bif (decide (s34>s33)) then
  bif (decide (0≤(wi (s34-(1:Int))))&&decide ((wi (s34-(1:Int)))<(s35.length:Int))) then
   bif (decide (0≤s34)&&decide (s34<(s35.length:Int))) then
    rec2 s31 s32 s33 (wi (s34-(1:Int))) (s35.set s34.toNat (listAt s35 (Ty.dflt (.st 0)) (wi (s34-(1:Int))).toNat))
   else none
  else none
 else k2_e4 s31 s32 s33 s35
def f20.s2 {R:Type} (L N:Nat) (k2_e4:LM→Int→Int→LM→Option R) (rec2:LM→Int→Int→Int→LM→Option R) (s31:LM) (s32:Int) (s33:Int) (s34:Int) (s35:LM):Option R:=
 f20.s2' L N k2_e4 rec2 s31 s32 s33 s34 s35
def f20.l2 {R:Type} (L N:Nat) (k2_e4:LM→Int→Int→LM→Option R):Nat→LM→Int→Int→Int→LM→Option R
 |0,_,_,_,_,_=>none
 |n+1,s31,s32,s33,s34,s35=>f20.s2 L N k2_e4 (f20.l2 L N k2_e4 n) s31 s32 s33 s34 s35
def f20.T2 (s31:LM) (s32:Int) (s33:Int) (s34:Int) (s35:LM):T:=mkT 74 [(0,(.tv (.sl (.st 0)) s31)),(3,(.row 1007)),(4,(.tv i64 s32)),(5,(.tv i64 s33)),(6,(.tv i64 s34))]
def f20.H2 (s31:LM) (s32:Int) (s33:Int) (s34:Int) (s35:LM):H:=[(1007,(.row 45 (.st 0) s35))]
def f20.T2_e4 (z36:LM) (z37:Int) (z38:Int) (z39:LM):T:=mkT 74 [(0,(.tv (.sl (.st 0)) z36)),(3,(.row 1007)),(4,(.tv i64 z37)),(5,(.tv i64 z38))]
def f20.H2_e4 (z36:LM) (z37:Int) (z38:Int) (z39:LM):H:=[(1007,(.row 45 (.st 0) z39))]
def f20.p2_e4' {R:Type} (L N:Nat) (k0_e0:LM→Option R) (rec0:LM→Int→LM→Option R) (z36:LM) (z37:Int) (z38:Int) (z39:LM):Option R:=
 bif (decide (0≤z37)&&decide (z37<(z36.length:Int))) then
  bif (decide (0≤z38)&&decide (z38<(z39.length:Int))) then
   rec0 z36 (wi (z37+(1:Int))) (z39.set z38.toNat (listAt z36 (Ty.dflt (.st 0)) z37.toNat))
  else none
 else none
def f20.p2_e4 {R:Type} (L N:Nat) (k0_e0:LM→Option R) (rec0:LM→Int→LM→Option R) (z36:LM) (z37:Int) (z38:Int) (z39:LM):Option R:=
 f20.p2_e4' L N k0_e0 rec0 z36 z37 z38 z39
def f20.j0' {R:Type} (L N:Nat) (k0_e0:LM→Option R) (rec0:LM→Int→LM→Option R) (w2:LM→Int→Int→Int→LM→Option R) (v27:LM) (v28:Int) (v29:Int) (v30:LM):Option R:=
 bif (decide (v30.length+([(Move.mk (0:Int) (0:Int))]:LM).length≤lim)) then
  w2 v27 v28 v29 (wi (((v30++([(Move.mk (0:Int) (0:Int))]:LM)).length:Int)-(1:Int))) (v30++([(Move.mk (0:Int) (0:Int))]:LM))
 else none
def f20.p1_e2' {R:Type} (L N:Nat) (k0_e0:LM→Option R) (rec0:LM→Int→LM→Option R) (w2:LM→Int→Int→Int→LM→Option R) (z14:LM) (z15:Int) (z16:Int) (z17:LM):Option R:=
 bif (decide (z16>(0:Int))) then
  bif (decide (0≤(wi (z16-(1:Int))))&&decide ((wi (z16-(1:Int)))<(z17.length:Int))) then
   bif (decide (0≤z15)&&decide (z15<(z14.length:Int))) then
    bif (Move.eqb (listAt z17 (Ty.dflt (.st 0)) (wi (z16-(1:Int))).toNat) (listAt z14 (Ty.dflt (.st 0)) z15.toNat)) then
     rec0 z14 (wi (z15+(1:Int))) z17
    else f20.j0' L N k0_e0 rec0 w2 z14 z15 z16 z17
   else none
  else none
 else f20.j0' L N k0_e0 rec0 w2 z14 z15 z16 z17
def f20.p1_e2 {R:Type} (L N:Nat) (k0_e0:LM→Option R) (rec0:LM→Int→LM→Option R) (z14:LM) (z15:Int) (z16:Int) (z17:LM):Option R:=
 f20.p1_e2' L N k0_e0 rec0 (fun s31 s32 s33 s34 s35=>f20.l2 L N (fun z36 z37 z38 z39=>f20.p2_e4 L N k0_e0 rec0 z36 z37 z38 z39) L s31 s32 s33 s34 s35) z14 z15 z16 z17
def f20.s0' {R:Type} (L N:Nat) (k0_e0:LM→Option R) (rec0:LM→Int→LM→Option R) (w1:LM→Int→Int→LM→Option R) (s0:LM) (s1:Int) (s2:LM):Option R:=
 bif (decide (s1<(s0.length:Int))) then
  w1 s0 s1 (s2.length:Int) s2
 else k0_e0 s2
def f20.s0 {R:Type} (L N:Nat) (k0_e0:LM→Option R) (rec0:LM→Int→LM→Option R) (s0:LM) (s1:Int) (s2:LM):Option R:=
 f20.s0' L N k0_e0 rec0 (fun s4 s5 s6 s7=>f20.l1 L N (fun z14 z15 z16 z17=>f20.p1_e2 L N k0_e0 rec0 z14 z15 z16 z17) L s4 s5 s6 s7) s0 s1 s2
def f20.l0 {R:Type} (L N:Nat) (k0_e0:LM→Option R):Nat→LM→Int→LM→Option R
 |0,_,_,_=>none
 |n+1,s0,s1,s2=>f20.s0 L N k0_e0 (f20.l0 L N k0_e0 n) s0 s1 s2
def f20.T0 (s0:LM) (s1:Int) (s2:LM):T:=mkT 74 [(0,(.tv (.sl (.st 0)) s0)),(3,(.row 1007)),(4,(.tv i64 s1))]
def f20.H0 (s0:LM) (s1:Int) (s2:LM):H:=[(1007,(.row 45 (.st 0) s2))]
def f20.T0_e0 (z3:LM):T:=mkT 74 [(3,(.row 1007))]
def f20.H0_e0 (z3:LM):H:=[(1007,(.row 45 (.st 0) z3))]
def f20.p0_e0' {R:Type} (L N:Nat) (k:LM→Option R) (z3:LM):Option R:=
 k z3
def f20.p0_e0 {R:Type} (L N:Nat) (k:LM→Option R) (z3:LM):Option R:=
 f20.p0_e0' L N k z3
def f20.b' {R:Type} (L N:Nat) (k:LM→Option R) (w0:LM→Int→LM→Option R) (x0:LM):Option R:=
 w0 x0 (0:Int) ([]:LM)
def f20.b {R:Type} (L N:Nat) (k:LM→Option R) (x0:LM):Option R:=
 f20.b' L N k (fun s0 s1 s2=>f20.l0 L N (fun z3=>f20.p0_e0 L N k z3) L s0 s1 s2) x0
def f20 (L N:Nat) (x0:LM):Option (LM):=f20.b L N some x0
def f20.ent (L N:Nat) (args:List AV) (vw:View) (site:Nat):Ans:=match roD [(.sl (.st 0))] vw args with
 |some d=>⟨LM,f20 L N d.1,fun y=>(RN.av site .row (),[(site,some (mkO none 45 (.st 0) y))],[])⟩
 |none=>Ans.no
noncomputable def E20 (L N:Nat):Env:={P:=Tryz.prog,ty:=tyOf,Φ:=(Φ26 L N),inl:=inlT,live:=lives,liveX:=livesX,L:=L,dp:=none,prom:=promT,heal:=healT,ren:=renT}
noncomputable def f20.c0:Code:=loopAt 0 (codeOf Tryz.f20)
noncomputable def f20.c1:Code:=loopAt 2 f20.c0
def f20.X1_e2 {R:Type} (κ:KX R):=fun z14 z15 z16 z17=>κ (.exit 2) (f20.T1_e2 z14 z15 z16 z17) (f20.H1_e2 z14 z15 z16 z17)
def f20.R1 {R:Type} (rec:KT R):=fun s4 s5 s6 s7=>rec (f20.T1 s4 s5 s6 s7) (f20.H1 s4 s5 s6 s7)
theorem f20.s1_eq {R:Type} (L N:Nat) (κ:KX R) (rec:KT R) (s4:LM) (s5:Int) (s6:Int) (s7:LM):
  evRd (E20 L N) (evCallI (E20 L N) 1 2000) 1000 20 74 2 f20.c1 κ rec (f20.T1 s4 s5 s6 s7) (f20.H1 s4 s5 s6 s7)
  =f20.s1 L N (f20.X1_e2 κ) (f20.R1 rec) s4 s5 s6 s7:=by kernel_rfl
theorem f20.l1_eq {R:Type} (L N:Nat) (κ:KX R):∀(n:Nat) (s4:LM) (s5:Int) (s6:Int) (s7:LM),
  evLp (E20 L N) (evCallI (E20 L N) 1 2000) 1000 20 74 2 f20.c1 κ n (f20.T1 s4 s5 s6 s7) (f20.H1 s4 s5 s6 s7)
  =f20.l1 L N (f20.X1_e2 κ) n s4 s5 s6 s7:=by
 intro n
 induction n with
 |zero=>intros;rfl
 |succ n ih=>
  intro s4 s5 s6 s7
  rw [evLp_succ,f20.s1_eq]
  delta f20.R1
  simp only [ih]
  rfl
noncomputable def f20.c2:Code:=loopAt 4 f20.c0
def f20.X2_e4 {R:Type} (κ:KX R):=fun z36 z37 z38 z39=>κ (.exit 4) (f20.T2_e4 z36 z37 z38 z39) (f20.H2_e4 z36 z37 z38 z39)
def f20.R2 {R:Type} (rec:KT R):=fun s31 s32 s33 s34 s35=>rec (f20.T2 s31 s32 s33 s34 s35) (f20.H2 s31 s32 s33 s34 s35)
theorem f20.s2_eq {R:Type} (L N:Nat) (κ:KX R) (rec:KT R) (s31:LM) (s32:Int) (s33:Int) (s34:Int) (s35:LM):
  evRd (E20 L N) (evCallI (E20 L N) 1 2000) 1000 20 74 4 f20.c2 κ rec (f20.T2 s31 s32 s33 s34 s35) (f20.H2 s31 s32 s33 s34 s35)
  =f20.s2 L N (f20.X2_e4 κ) (f20.R2 rec) s31 s32 s33 s34 s35:=by kernel_rfl
theorem f20.l2_eq {R:Type} (L N:Nat) (κ:KX R):∀(n:Nat) (s31:LM) (s32:Int) (s33:Int) (s34:Int) (s35:LM),
  evLp (E20 L N) (evCallI (E20 L N) 1 2000) 1000 20 74 4 f20.c2 κ n (f20.T2 s31 s32 s33 s34 s35) (f20.H2 s31 s32 s33 s34 s35)
  =f20.l2 L N (f20.X2_e4 κ) n s31 s32 s33 s34 s35:=by
 intro n
 induction n with
 |zero=>intros;rfl
 |succ n ih=>
  intro s31 s32 s33 s34 s35
  rw [evLp_succ,f20.s2_eq]
  delta f20.R2
  simp only [ih]
  rfl
def f20.X0_e0 {R:Type} (κ:KX R):=fun z3=>κ (.exit 0) (f20.T0_e0 z3) (f20.H0_e0 z3)
def f20.R0 {R:Type} (rec:KT R):=fun s0 s1 s2=>rec (f20.T0 s0 s1 s2) (f20.H0 s0 s1 s2)
theorem f20.p2_e4_eq {R:Type} (L N:Nat) (κ:KX R) (rec:KT R) (z36:LM) (z37:Int) (z38:Int) (z39:LM):
  (contAt (E20 L N) (evCallI (E20 L N) 1 2000) 1000 20 74 4 f20.c0 (rdK (E20 L N) 1000 20 74 0 κ rec)) (.exit 4) (f20.T2_e4 z36 z37 z38 z39) (f20.H2_e4 z36 z37 z38 z39)
  =f20.p2_e4 L N (f20.X0_e0 κ) (f20.R0 rec) z36 z37 z38 z39:=by kernel_rfl
theorem f20.p1_e2_eq {R:Type} (L N:Nat) (κ:KX R) (rec:KT R) (z14:LM) (z15:Int) (z16:Int) (z17:LM):
  (contAt (E20 L N) (evCallI (E20 L N) 1 2000) 1000 20 74 2 f20.c0 (rdK (E20 L N) 1000 20 74 0 κ rec)) (.exit 2) (f20.T1_e2 z14 z15 z16 z17) (f20.H1_e2 z14 z15 z16 z17)
  =f20.p1_e2 L N (f20.X0_e0 κ) (f20.R0 rec) z14 z15 z16 z17:=by
 refine Eq.trans (b:=f20.p1_e2' L N (f20.X0_e0 κ) (f20.R0 rec) (fun s31 s32 s33 s34 s35=>evLp (E20 L N) (evCallI (E20 L N) 1 2000) 1000 20 74 4 f20.c2 (contAt (E20 L N) (evCallI (E20 L N) 1 2000) 1000 20 74 4 f20.c0 (rdK (E20 L N) 1000 20 74 0 κ rec)) L (f20.T2 s31 s32 s33 s34 s35) (f20.H2 s31 s32 s33 s34 s35)) z14 z15 z16 z17) (by kernel_rfl) ?_
 unfold f20.p1_e2
 simp only [f20.l2_eq]
 delta f20.X2_e4
 simp only [f20.p2_e4_eq]
theorem f20.s0_eq {R:Type} (L N:Nat) (κ:KX R) (rec:KT R) (s0:LM) (s1:Int) (s2:LM):
  evRd (E20 L N) (evCallI (E20 L N) 1 2000) 1000 20 74 0 f20.c0 κ rec (f20.T0 s0 s1 s2) (f20.H0 s0 s1 s2)
  =f20.s0 L N (f20.X0_e0 κ) (f20.R0 rec) s0 s1 s2:=by
 refine Eq.trans (b:=f20.s0' L N (f20.X0_e0 κ) (f20.R0 rec) (fun s4 s5 s6 s7=>evLp (E20 L N) (evCallI (E20 L N) 1 2000) 1000 20 74 2 f20.c1 (contAt (E20 L N) (evCallI (E20 L N) 1 2000) 1000 20 74 2 f20.c0 (rdK (E20 L N) 1000 20 74 0 κ rec)) L (f20.T1 s4 s5 s6 s7) (f20.H1 s4 s5 s6 s7)) s0 s1 s2) (by kernel_rfl) ?_
 unfold f20.s0
 simp only [f20.l1_eq]
 delta f20.X1_e2
 simp only [f20.p1_e2_eq]
theorem f20.l0_eq {R:Type} (L N:Nat) (κ:KX R):∀(n:Nat) (s0:LM) (s1:Int) (s2:LM),
  evLp (E20 L N) (evCallI (E20 L N) 1 2000) 1000 20 74 0 f20.c0 κ n (f20.T0 s0 s1 s2) (f20.H0 s0 s1 s2)
  =f20.l0 L N (f20.X0_e0 κ) n s0 s1 s2:=by
 intro n
 induction n with
 |zero=>intros;rfl
 |succ n ih=>
  intro s0 s1 s2
  rw [evLp_succ,f20.s0_eq]
  delta f20.R0
  simp only [ih]
  rfl
theorem f20.p0_e0_eq {R:Type} (L N:Nat) (κ:RN.Den .row→List Move→Option R) (z3:LM):
  (contAt (E20 L N) (evCallI (E20 L N) 1 2000) 1000 20 74 0 (codeOf Tryz.f20) (finK (E20 L N) 1000 Tryz.f20 (finN .row none 45 (.st 0) κ))) (.exit 0) (f20.T0_e0 z3) (f20.H0_e0 z3)
  =f20.p0_e0 L N (fun a0=>κ () a0) z3:=by kernel_rfl
theorem f20.b_eq {R:Type} (L N:Nat) (κ:RN.Den .row→List Move→Option R) (x0:LM):
  evBody (E20 L N) (evCallI (E20 L N) 1 2000) 1000 20 Tryz.f20 [(.tv (.sl (.st 0)) x0)] [] [] (finN .row none 45 (.st 0) κ)
  =f20.b L N (fun a0=>κ () a0) x0:=by
 refine Eq.trans (b:=f20.b' L N (fun a0=>κ () a0) (fun s0 s1 s2=>evLp (E20 L N) (evCallI (E20 L N) 1 2000) 1000 20 74 0 f20.c0 (contAt (E20 L N) (evCallI (E20 L N) 1 2000) 1000 20 74 0 (codeOf Tryz.f20) (finK (E20 L N) 1000 Tryz.f20 (finN .row none 45 (.st 0) κ))) L (f20.T0 s0 s1 s2) (f20.H0 s0 s1 s2)) x0) (by kernel_rfl) ?_
 unfold f20.b
 simp only [f20.l0_eq]
 delta f20.X0_e0
 simp only [f20.p0_e0_eq]
theorem f20.ok (L N:Nat) (hΦ:TellsOk Tryz.prog ((Φ26 L N))):EntOk Tryz.prog 20 (f20.ent L N):=by
 intro args vw site h
 unfold f20.ent
 split
 ·rename_i d ha
  intro y hy hs
  refine call_ron (y:=y) (dep:=1000) (E:=(E20 L N)) (ts:=[(.sl (.st 0))]) (rn:=.row) (q:=none) (el:=45) (ty:=(.st 0)) (d1:=()) (xs:=y) (κ:=(fun d xs=>some xs)) (sound_of hΦ) okP (callI_sound (sound_of hΦ) okP 1 2000) (f:=Tryz.f20) rfl hs ha ?_ (fun _ _ h=>by obtain rfl:=Option.some.inj h;exact ⟨rfl,rfl⟩) rfl site
  exact (f20.b_eq L N (fun d xs=>some xs) d.1).trans (Eq.trans (b:=f20.b L N some d.1) (by kernel_rfl) hy)
 ·intro y hy
  cases hy
def Φ20 (L N:Nat):Tells:=(addT (Φ26 L N) 20 (f20.ent L N))
theorem Φ20_ok (L N:Nat):TellsOk Tryz.prog (Φ20 L N):=addT_ok (Φ26_ok L N) (f20.ok L N (Φ26_ok L N))
def f4.j0' {R:Type} (L N:Nat) (k0_e0:Int→LLM→Option R) (rec0:Int→LI→Int→LLM→Option R) (v11:Int) (v12:LI) (v13:Int) (v14:Bool) (v15:LLM):Option R:=
 bif v14 then
  bif (decide (0≤v13)&&decide (v13<(v12.length:Int))) then
   bif (decide (0≤v13)&&decide (v13<(v12.length:Int))) then
    bif (decide (0≤(listAt v12 (0:Int) v13.toNat))&&decide ((listAt v12 (0:Int) v13.toNat)<(v15.length:Int))) then
     bif (decide (0≤(wi (v13+(1:Int))))&&decide ((wi (v13+(1:Int)))<(v12.length:Int))) then
      bif (decide (0≤(wi (v13+(2:Int))))&&decide ((wi (v13+(2:Int)))<(v12.length:Int))) then
       bif (decide ((listAt v15 [] (listAt v12 (0:Int) v13.toNat).toNat).length+([(Move.mk (listAt v12 (0:Int) (wi (v13+(1:Int))).toNat) (listAt v12 (0:Int) (wi (v13+(2:Int))).toNat))]:LM).length≤lim)) then
        bif (decide (0≤(listAt v12 (0:Int) v13.toNat))&&decide ((listAt v12 (0:Int) v13.toNat)<(v15.length:Int))) then
         bif (Nat.beq ((listAt v12 (0:Int) v13.toNat).toNat) ((listAt v12 (0:Int) v13.toNat).toNat)&&true&&true) then
          rec0 v11 v12 (wi (v13+(3:Int))) (v15.set ((listAt v12 (0:Int) v13.toNat).toNat) ((listAt v15 [] (listAt v12 (0:Int) v13.toNat).toNat)++([(Move.mk (listAt v12 (0:Int) (wi (v13+(1:Int))).toNat) (listAt v12 (0:Int) (wi (v13+(2:Int))).toNat))]:LM)))
         else none
        else none
       else none
      else none
     else none
    else none
   else none
  else none
 else rec0 v11 v12 (wi (v13+(3:Int))) v15
def f4.s0' {R:Type} (L N:Nat) (k0_e0:Int→LLM→Option R) (rec0:Int→LI→Int→LLM→Option R) (s5:Int) (s6:LI) (s7:Int) (s8:LLM):Option R:=
 bif (decide ((wi (s7+(2:Int)))<(s6.length:Int))) then
  bif (decide (0≤s7)&&decide (s7<(s6.length:Int))) then
   bif (decide ((listAt s6 (0:Int) s7.toNat)≥(0:Int))) then
    bif (decide (0≤s7)&&decide (s7<(s6.length:Int))) then
     f4.j0' L N k0_e0 rec0 s5 s6 s7 (decide ((listAt s6 (0:Int) s7.toNat)<s5)) s8
    else none
   else f4.j0' L N k0_e0 rec0 s5 s6 s7 false s8
  else none
 else k0_e0 s5 s8
def f4.s0 {R:Type} (L N:Nat) (k0_e0:Int→LLM→Option R) (rec0:Int→LI→Int→LLM→Option R) (s5:Int) (s6:LI) (s7:Int) (s8:LLM):Option R:=
 f4.s0' L N k0_e0 rec0 s5 s6 s7 s8
def f4.l0 {R:Type} (L N:Nat) (k0_e0:Int→LLM→Option R):Nat→Int→LI→Int→LLM→Option R
 |0,_,_,_,_=>none
 |n+1,s5,s6,s7,s8=>f4.s0 L N k0_e0 (f4.l0 L N k0_e0 n) s5 s6 s7 s8
def f4.T0 (s5:Int) (s6:LI) (s7:Int) (s8:LLM):T:=mkT 83 [(0,(.tv i64 s5)),(1,(.tv (.sl i64) s6)),(4,(.ptr 1004 0)),(5,(.ptr 1005 0)),(6,(.tv i64 s7))]
def f4.H0 (s5:Int) (s6:LI) (s7:Int) (s8:LLM):H:=[(1004,(.box [.nil])),(1005,(.box [(.row 1017)])),(1017,(.deep 0 (.sl (.st 0)) s8 none))]
def f4.T0_e0 (z9:Int) (z10:LLM):T:=mkT 83 [(0,(.tv i64 z9)),(4,(.ptr 1004 0)),(5,(.ptr 1005 0))]
def f4.H0_e0 (z9:Int) (z10:LLM):H:=[(1004,(.box [.nil])),(1005,(.box [(.row 1017)])),(1017,(.deep 0 (.sl (.st 0)) z10 none))]
def f4.s1' {R:Type} (L N:Nat) (k1_e2:LLM→Option R) (rec1:Int→Int→LLM→Option R) (s20:Int) (s21:Int) (s22:LLM):Option R:=
 bif (decide (s21<s20)) then
  bif (decide (0≤s21)&&decide (s21<(s22.length:Int))) then
   (f20 L N (listAt s22 [] s21.toNat)).bind fun y24=>
   bif (decide (0≤s21)&&decide (s21<(s22.length:Int))) then
    bif (Nat.beq s21.toNat s21.toNat&&true&&true) then
     rec1 s20 (wi (s21+(1:Int))) (s22.set s21.toNat y24)
    else none
   else none
  else none
 else k1_e2 s22
def f4.s1 {R:Type} (L N:Nat) (k1_e2:LLM→Option R) (rec1:Int→Int→LLM→Option R) (s20:Int) (s21:Int) (s22:LLM):Option R:=
 f4.s1' L N k1_e2 rec1 s20 s21 s22
def f4.l1 {R:Type} (L N:Nat) (k1_e2:LLM→Option R):Nat→Int→Int→LLM→Option R
 |0,_,_,_=>none
 |n+1,s20,s21,s22=>f4.s1 L N k1_e2 (f4.l1 L N k1_e2 n) s20 s21 s22
def f4.T1 (s20:Int) (s21:Int) (s22:LLM):T:=mkT 83 [(0,(.tv i64 s20)),(4,(.ptr 1004 0)),(5,(.ptr 1005 0)),(7,(.tv i64 s21))]
def f4.H1 (s20:Int) (s21:Int) (s22:LLM):H:=[(1004,(.box [.nil])),(1005,(.box [(.row 1017)])),(1017,(.deep 0 (.sl (.st 0)) s22 none))]
def f4.T1_e2 (z23:LLM):T:=mkT 83 [(4,(.ptr 1004 0)),(5,(.ptr 1005 0))]
def f4.H1_e2 (z23:LLM):H:=[(1004,(.box [.nil])),(1005,(.box [(.row 1017)])),(1017,(.deep 0 (.sl (.st 0)) z23 none))]
def f4.p1_e2' {R:Type} (L N:Nat) (k:Graph→Option R) (z23:LLM):Option R:=
 k (Graph.mk z23)
def f4.p1_e2 {R:Type} (L N:Nat) (k:Graph→Option R) (z23:LLM):Option R:=
 f4.p1_e2' L N k z23
def f4.p0_e0' {R:Type} (L N:Nat) (k:Graph→Option R) (w1:Int→Int→LLM→Option R) (z9:Int) (z10:LLM):Option R:=
 w1 z9 (0:Int) z10
def f4.p0_e0 {R:Type} (L N:Nat) (k:Graph→Option R) (z9:Int) (z10:LLM):Option R:=
 f4.p0_e0' L N k (fun s20 s21 s22=>f4.l1 L N (fun z23=>f4.p1_e2 L N k z23) L s20 s21 s22) z9 z10
def f4.j1' {R:Type} (L N:Nat) (k:Graph→Option R) (w0:Int→LI→Int→LLM→Option R) (v3:Int) (v4:LI):Option R:=
 bif (decide (0≤v3)&&decide (v3≤(lim:Int))) then
  w0 v3 v4 (0:Int) (List.replicate v3.toNat [])
 else none
def f4.b' {R:Type} (L N:Nat) (k:Graph→Option R) (w0:Int→LI→Int→LLM→Option R) (x0:Int) (x1:LI):Option R:=
 bif (decide (x0<(1:Int))) then
  k (Graph.mk [])
 else bif (decide (x0>(120:Int))) then
  k (Graph.mk [])
 else f4.j1' L N k w0 x0 x1
def f4.b {R:Type} (L N:Nat) (k:Graph→Option R) (x0:Int) (x1:LI):Option R:=
 f4.b' L N k (fun s5 s6 s7 s8=>f4.l0 L N (fun z9 z10=>f4.p0_e0 L N k z9 z10) L s5 s6 s7 s8) x0 x1
def f4 (L N:Nat) (x0:Int) (x1:LI):Option (Graph):=f4.b L N some x0 x1
def f4.ent (L N:Nat):=entDa [i64,(.sl i64)] (.one (.st 2)) fun d=>f4 L N d.1 d.2.1
noncomputable def E4 (L N:Nat):Env:={P:=Tryz.prog,ty:=tyOf,Φ:=(Φ20 L N),inl:=inlT,live:=lives,liveX:=livesX,L:=L,dp:=(some 0),prom:=promT,heal:=healT,ren:=renT,fresh:=fun s=>Nat.beq s 1065}
noncomputable def f4.c0:Code:=loopAt 0 (codeOf Tryz.f4)
def f4.X0_e0 {R:Type} (κ:KX R):=fun z9 z10=>κ (.exit 0) (f4.T0_e0 z9 z10) (f4.H0_e0 z9 z10)
def f4.R0 {R:Type} (rec:KT R):=fun s5 s6 s7 s8=>rec (f4.T0 s5 s6 s7 s8) (f4.H0 s5 s6 s7 s8)
theorem f4.s0_eq {R:Type} (L N:Nat) (κ:KX R) (rec:KT R) (s5:Int) (s6:LI) (s7:Int) (s8:LLM):
  evRd (E4 L N) (evCallI (E4 L N) 1 2000) 1000 4 83 0 f4.c0 κ rec (f4.T0 s5 s6 s7 s8) (f4.H0 s5 s6 s7 s8)
  =f4.s0 L N (f4.X0_e0 κ) (f4.R0 rec) s5 s6 s7 s8:=by kernel_rfl
theorem f4.l0_eq {R:Type} (L N:Nat) (κ:KX R):∀(n:Nat) (s5:Int) (s6:LI) (s7:Int) (s8:LLM),
  evLp (E4 L N) (evCallI (E4 L N) 1 2000) 1000 4 83 0 f4.c0 κ n (f4.T0 s5 s6 s7 s8) (f4.H0 s5 s6 s7 s8)
  =f4.l0 L N (f4.X0_e0 κ) n s5 s6 s7 s8:=by
 intro n
 induction n with
 |zero=>intros;rfl
 |succ n ih=>
  intro s5 s6 s7 s8
  rw [evLp_succ,f4.s0_eq]
  delta f4.R0
  simp only [ih]
  rfl
noncomputable def f4.c1:Code:=loopAt 2 (codeOf Tryz.f4)
def f4.X1_e2 {R:Type} (κ:KX R):=fun z23=>κ (.exit 2) (f4.T1_e2 z23) (f4.H1_e2 z23)
def f4.R1 {R:Type} (rec:KT R):=fun s20 s21 s22=>rec (f4.T1 s20 s21 s22) (f4.H1 s20 s21 s22)
theorem f4.s1_eq {R:Type} (L N:Nat) (κ:KX R) (rec:KT R) (s20:Int) (s21:Int) (s22:LLM):
  evRd (E4 L N) (evCallI (E4 L N) 1 2000) 1000 4 83 2 f4.c1 κ rec (f4.T1 s20 s21 s22) (f4.H1 s20 s21 s22)
  =f4.s1 L N (f4.X1_e2 κ) (f4.R1 rec) s20 s21 s22:=by kernel_rfl
theorem f4.l1_eq {R:Type} (L N:Nat) (κ:KX R):∀(n:Nat) (s20:Int) (s21:Int) (s22:LLM),
  evLp (E4 L N) (evCallI (E4 L N) 1 2000) 1000 4 83 2 f4.c1 κ n (f4.T1 s20 s21 s22) (f4.H1 s20 s21 s22)
  =f4.l1 L N (f4.X1_e2 κ) n s20 s21 s22:=by
 intro n
 induction n with
 |zero=>intros;rfl
 |succ n ih=>
  intro s20 s21 s22
  rw [evLp_succ,f4.s1_eq]
  delta f4.R1
  simp only [ih]
  rfl
theorem f4.p1_e2_eq {R:Type} (L N:Nat) (κ:AV→Option R) (z23:LLM):
  (contAt (E4 L N) (evCallI (E4 L N) 1 2000) 1000 4 83 2 (codeOf Tryz.f4) (finK (E4 L N) 1000 Tryz.f4 (finC (.one (.st 2)) κ))) (.exit 2) (f4.T1_e2 z23) (f4.H1_e2 z23)
  =f4.p1_e2 L N (fun a0=>κ (.tv (.st 2) a0)) z23:=by kernel_rfl
theorem f4.p0_e0_eq {R:Type} (L N:Nat) (κ:AV→Option R) (z9:Int) (z10:LLM):
  (contAt (E4 L N) (evCallI (E4 L N) 1 2000) 1000 4 83 0 (codeOf Tryz.f4) (finK (E4 L N) 1000 Tryz.f4 (finC (.one (.st 2)) κ))) (.exit 0) (f4.T0_e0 z9 z10) (f4.H0_e0 z9 z10)
  =f4.p0_e0 L N (fun a0=>κ (.tv (.st 2) a0)) z9 z10:=by
 refine Eq.trans (b:=f4.p0_e0' L N (fun a0=>κ (.tv (.st 2) a0)) (fun s20 s21 s22=>evLp (E4 L N) (evCallI (E4 L N) 1 2000) 1000 4 83 2 f4.c1 (contAt (E4 L N) (evCallI (E4 L N) 1 2000) 1000 4 83 2 (codeOf Tryz.f4) (finK (E4 L N) 1000 Tryz.f4 (finC (.one (.st 2)) κ))) L (f4.T1 s20 s21 s22) (f4.H1 s20 s21 s22)) z9 z10) (by kernel_rfl) ?_
 unfold f4.p0_e0
 simp only [f4.l1_eq]
 delta f4.X1_e2
 simp only [f4.p1_e2_eq]
theorem f4.b_eq {R:Type} (L N:Nat) (κ:AV→Option R) (x0:Int) (x1:LI):
  evBody (E4 L N) (evCallI (E4 L N) 1 2000) 1000 4 Tryz.f4 [(.tv i64 x0),(.tv (.sl i64) x1)] [] [] (finC (.one (.st 2)) κ)
  =f4.b L N (fun a0=>κ (.tv (.st 2) a0)) x0 x1:=by
 refine Eq.trans (b:=f4.b' L N (fun a0=>κ (.tv (.st 2) a0)) (fun s5 s6 s7 s8=>evLp (E4 L N) (evCallI (E4 L N) 1 2000) 1000 4 83 0 f4.c0 (contAt (E4 L N) (evCallI (E4 L N) 1 2000) 1000 4 83 0 (codeOf Tryz.f4) (finK (E4 L N) 1000 Tryz.f4 (finC (.one (.st 2)) κ))) L (f4.T0 s5 s6 s7 s8) (f4.H0 s5 s6 s7 s8)) x0 x1) (by kernel_rfl) ?_
 unfold f4.b
 simp only [f4.l0_eq]
 delta f4.X0_e0
 simp only [f4.p0_e0_eq]
theorem f4.ok (L N:Nat) (hΦ:TellsOk Tryz.prog ((Φ20 L N))):EntOk Tryz.prog 4 (f4.ent L N):=entDa_ok (E:=(E4 L N)) (dep:=1000) (f:=Tryz.f4) (sound_of hΦ) okP (callI_sound (sound_of hΦ) okP 1 2000) rfl fun d _ hy=>(f4.b_eq L N (unR (.one (.st 2))) d.1 d.2.1).trans (Eq.trans (b:=f4.b L N some d.1 d.2.1) (by kernel_rfl) hy)
def Φ4 (L N:Nat):Tells:=(addT (Φ20 L N) 4 (f4.ent L N))
theorem Φ4_ok (L N:Nat):TellsOk Tryz.prog (Φ4 L N):=addT_ok (Φ20_ok L N) (f4.ok L N (Φ20_ok L N))
def f22.b' {R:Type} (L N:Nat) (k:Bool→Option R) (x0:Int):Option R:=
 bif (decide (x0≥(-4:Int))) then
  k (decide (x0≤(4:Int)))
 else k false
def f22.b {R:Type} (L N:Nat) (k:Bool→Option R) (x0:Int):Option R:=
 f22.b' L N k x0
def f22 (L N:Nat) (x0:Int):Option (Bool):=f22.b L N some x0
def f22.ent (L N:Nat):=entRo [i64] (.one .bool) fun d=>f22 L N d.1
noncomputable def E22 (L N:Nat):Env:={P:=Tryz.prog,ty:=tyOf,Φ:=(Φ4 L N),inl:=inlT,live:=lives,liveX:=livesX,L:=L,dp:=none,prom:=promT,heal:=healT,ren:=renT}
theorem f22.b_eq {R:Type} (L N:Nat) (κ:AV→Option R) (x0:Int):
  evBody (E22 L N) (evCallI (E22 L N) 1 2000) 1000 22 Tryz.f22 [(.tv i64 x0)] [] [] (finC (.one .bool) κ)
  =f22.b L N (fun a0=>κ (.tv .bool a0)) x0:=by kernel_rfl
theorem f22.ok (L N:Nat) (hΦ:TellsOk Tryz.prog ((Φ4 L N))):EntOk Tryz.prog 22 (f22.ent L N):=entRo_ok (E:=(E22 L N)) (dep:=1000) (f:=Tryz.f22) (sound_of hΦ) okP (callI_sound (sound_of hΦ) okP 1 2000) rfl rfl fun d _ hy=>(f22.b_eq L N (unR (.one .bool)) d.1).trans (Eq.trans (b:=f22.b L N some d.1) (by kernel_rfl) hy)
def Φ22 (L N:Nat):Tells:=(addT (Φ4 L N) 22 (f22.ent L N))
theorem Φ22_ok (L N:Nat):TellsOk Tryz.prog (Φ22 L N):=addT_ok (Φ4_ok L N) (f22.ok L N (Φ4_ok L N))
def f64.b' {R:Type} (L N:Nat) (k:Bool→Option R) (x0:Int):Option R:=
 k (x0 !=x0)
def f64.b {R:Type} (L N:Nat) (k:Bool→Option R) (x0:Int):Option R:=
 f64.b' L N k x0
def f64 (L N:Nat) (x0:Int):Option (Bool):=f64.b L N some x0
def f64.ent (L N:Nat):=entRo [i64] (.one .bool) fun d=>f64 L N d.1
noncomputable def E64 (L N:Nat):Env:={P:=Tryz.prog,ty:=tyOf,Φ:=(Φ22 L N),inl:=inlT,live:=lives,liveX:=livesX,L:=L,dp:=none,prom:=promT,heal:=healT,ren:=renT}
theorem f64.b_eq {R:Type} (L N:Nat) (κ:AV→Option R) (x0:Int):
  evBody (E64 L N) (evCallI (E64 L N) 1 2000) 1000 64 Tryz.f64 [(.tv i64 x0)] [] [] (finC (.one .bool) κ)
  =f64.b L N (fun a0=>κ (.tv .bool a0)) x0:=by kernel_rfl
theorem f64.ok (L N:Nat) (hΦ:TellsOk Tryz.prog ((Φ22 L N))):EntOk Tryz.prog 64 (f64.ent L N):=entRo_ok (E:=(E64 L N)) (dep:=1000) (f:=Tryz.f64) (sound_of hΦ) okP (callI_sound (sound_of hΦ) okP 1 2000) rfl rfl fun d _ hy=>(f64.b_eq L N (unR (.one .bool)) d.1).trans (Eq.trans (b:=f64.b L N some d.1) (by kernel_rfl) hy)
def Φ64 (L N:Nat):Tells:=(addT (Φ22 L N) 64 (f64.ent L N))
theorem Φ64_ok (L N:Nat):TellsOk Tryz.prog (Φ64 L N):=addT_ok (Φ22_ok L N) (f64.ok L N (Φ22_ok L N))
def f49.b' {R:Type} (L N:Nat) (k:Int→Option R) (x0:Int) (x1:Int):Option R:=
 (f64 L N x0).bind fun y0=>
 (f64 L N x1).bind fun y1=>
 bif y0 then
  bif y1 then
   k (0:Int)
  else k (-1:Int)
 else bif y1 then
  k (1:Int)
 else bif (decide (x0<x1)) then
  k (-1:Int)
 else bif (decide (x0>x1)) then
  k (1:Int)
 else k (0:Int)
def f49.b {R:Type} (L N:Nat) (k:Int→Option R) (x0:Int) (x1:Int):Option R:=
 f49.b' L N k x0 x1
def f49 (L N:Nat) (x0:Int) (x1:Int):Option (Int):=f49.b L N some x0 x1
def f49.ent (L N:Nat):=entRo [i64,i64] (.one i64) fun d=>f49 L N d.1 d.2.1
noncomputable def E49 (L N:Nat):Env:={P:=Tryz.prog,ty:=tyOf,Φ:=(Φ64 L N),inl:=inlT,live:=lives,liveX:=livesX,L:=L,dp:=none,prom:=promT,heal:=healT,ren:=renT}
theorem f49.b_eq {R:Type} (L N:Nat) (κ:AV→Option R) (x0:Int) (x1:Int):
  evBody (E49 L N) (evCallI (E49 L N) 1 2000) 1000 49 Tryz.f49 [(.tv i64 x0),(.tv i64 x1)] [] [] (finC (.one i64) κ)
  =f49.b L N (fun a0=>κ (.tv i64 a0)) x0 x1:=by kernel_rfl
theorem f49.ok (L N:Nat) (hΦ:TellsOk Tryz.prog ((Φ64 L N))):EntOk Tryz.prog 49 (f49.ent L N):=entRo_ok (E:=(E49 L N)) (dep:=1000) (f:=Tryz.f49) (sound_of hΦ) okP (callI_sound (sound_of hΦ) okP 1 2000) rfl rfl fun d _ hy=>(f49.b_eq L N (unR (.one i64)) d.1 d.2.1).trans (Eq.trans (b:=f49.b L N some d.1 d.2.1) (by kernel_rfl) hy)
def Φ49 (L N:Nat):Tells:=(addT (Φ64 L N) 49 (f49.ent L N))
theorem Φ49_ok (L N:Nat):TellsOk Tryz.prog (Φ49 L N):=addT_ok (Φ64_ok L N) (f49.ok L N (Φ64_ok L N))
def f23.b' {R:Type} (L N:Nat) (k:Int→Option R) (x0:Move) (x1:Move):Option R:=
 (f49 L N x0.act x1.act).bind fun y0=>
 bif (y0 !=(0:Int)) then
  k y0
 else (f49 L N x0.to x1.to).bind fun y1=>
 k y1
def f23.b {R:Type} (L N:Nat) (k:Int→Option R) (x0:Move) (x1:Move):Option R:=
 f23.b' L N k x0 x1
def f23 (L N:Nat) (x0:Move) (x1:Move):Option (Int):=f23.b L N some x0 x1
def f23.ent (L N:Nat):=entRo [(.st 0),(.st 0)] (.one i64) fun d=>f23 L N d.1 d.2.1
noncomputable def E23 (L N:Nat):Env:={P:=Tryz.prog,ty:=tyOf,Φ:=(Φ49 L N),inl:=inlT,live:=lives,liveX:=livesX,L:=L,dp:=none,prom:=promT,heal:=healT,ren:=renT}
theorem f23.b_eq {R:Type} (L N:Nat) (κ:AV→Option R) (x0:Move) (x1:Move):
  evBody (E23 L N) (evCallI (E23 L N) 1 2000) 1000 23 Tryz.f23 [(.tv (.st 0) x0),(.tv (.st 0) x1)] [] [] (finC (.one i64) κ)
  =f23.b L N (fun a0=>κ (.tv i64 a0)) x0 x1:=by kernel_rfl
theorem f23.ok (L N:Nat) (hΦ:TellsOk Tryz.prog ((Φ49 L N))):EntOk Tryz.prog 23 (f23.ent L N):=entRo_ok (E:=(E23 L N)) (dep:=1000) (f:=Tryz.f23) (sound_of hΦ) okP (callI_sound (sound_of hΦ) okP 1 2000) rfl rfl fun d _ hy=>(f23.b_eq L N (unR (.one i64)) d.1 d.2.1).trans (Eq.trans (b:=f23.b L N some d.1 d.2.1) (by kernel_rfl) hy)
def Φ23 (L N:Nat):Tells:=(addT (Φ49 L N) 23 (f23.ent L N))
theorem Φ23_ok (L N:Nat):TellsOk Tryz.prog (Φ23 L N):=addT_ok (Φ49_ok L N) (f23.ok L N (Φ49_ok L N))
def f6.s1' {R:Type} (L N:Nat) (k1_e2:LLM→Int→Int→LLM→Option R) (k1_r:Bool→LLM→Int→Int→LLM→Option R) (rec1:LM→LLM→Int→Int→LM→Int→Int→LLM→Option R) (s7:LM) (s8:LLM) (s9:Int) (s10:Int) (s11:LM) (s12:Int) (s13:Int) (s14:LLM):Option R:=
 bif (decide (s13<s12)) then
  bif (decide (0≤s13)&&decide (s13<(s11.length:Int))) then
   (f22 L N ((listAt s11 (Ty.dflt (.st 0)) s13.toNat).act)).bind fun y19=>
   bif (!y19) then
    k1_r false s8 s9 s10 s14
   else bif (decide ((listAt s11 (Ty.dflt (.st 0)) s13.toNat).to<(0:Int))) then
    k1_r false s8 s9 s10 s14
   else bif (decide ((listAt s11 (Ty.dflt (.st 0)) s13.toNat).to≥(s14.length:Int))) then
    k1_r false s8 s9 s10 s14
   else bif (decide (s13>(0:Int))) then
    bif (decide (0≤(wi (s13-(1:Int))))&&decide ((wi (s13-(1:Int)))<(s7.length:Int))) then
     (f23 L N (listAt s7 (Ty.dflt (.st 0)) (wi (s13-(1:Int))).toNat) (Move.mk ((listAt s11 (Ty.dflt (.st 0)) s13.toNat).act) ((listAt s11 (Ty.dflt (.st 0)) s13.toNat).to))).bind fun y20=>
     bif (decide (y20≥(0:Int))) then
      k1_r false s8 s9 s10 s14
     else rec1 s7 s8 s9 s10 s11 s12 (wi (s13+(1:Int))) s14
    else none
   else rec1 s7 s8 s9 s10 s11 s12 (wi (s13+(1:Int))) s14
  else none
 else k1_e2 s8 s9 s10 s14
def f6.s1 {R:Type} (L N:Nat) (k1_e2:LLM→Int→Int→LLM→Option R) (k1_r:Bool→LLM→Int→Int→LLM→Option R) (rec1:LM→LLM→Int→Int→LM→Int→Int→LLM→Option R) (s7:LM) (s8:LLM) (s9:Int) (s10:Int) (s11:LM) (s12:Int) (s13:Int) (s14:LLM):Option R:=
 f6.s1' L N k1_e2 k1_r rec1 s7 s8 s9 s10 s11 s12 s13 s14
def f6.l1 {R:Type} (L N:Nat) (k1_e2:LLM→Int→Int→LLM→Option R) (k1_r:Bool→LLM→Int→Int→LLM→Option R):Nat→LM→LLM→Int→Int→LM→Int→Int→LLM→Option R
 |0,_,_,_,_,_,_,_,_=>none
 |n+1,s7,s8,s9,s10,s11,s12,s13,s14=>f6.s1 L N k1_e2 k1_r (f6.l1 L N k1_e2 k1_r n) s7 s8 s9 s10 s11 s12 s13 s14
def f6.T1 (s7:LM) (s8:LLM) (s9:Int) (s10:Int) (s11:LM) (s12:Int) (s13:Int) (s14:LLM):T:=mkT 64 [(1,(.ptr 1001 0)),(4,(.tv (.sl (.st 0)) s7)),(18,(.tv (.sl (.sl (.st 0))) s8)),(19,(.tv i64 s9)),(20,(.tv i64 s10)),(24,(.tv (.sl (.st 0)) s11)),(25,(.tv i64 s12)),(26,(.tv i64 s13))]
def f6.H1 (s7:LM) (s8:LLM) (s9:Int) (s10:Int) (s11:LM) (s12:Int) (s13:Int) (s14:LLM):H:=[(1001,(.box [(.tv (.sl (.sl (.st 0))) s14)]))]
def f6.T1_e2 (z15:LLM) (z16:Int) (z17:Int) (z18:LLM):T:=mkT 64 [(1,(.ptr 1001 0)),(18,(.tv (.sl (.sl (.st 0))) z15)),(19,(.tv i64 z16)),(20,(.tv i64 z17))]
def f6.H1_e2 (z15:LLM) (z16:Int) (z17:Int) (z18:LLM):H:=[(1001,(.box [(.tv (.sl (.sl (.st 0))) z18)]))]
def f6.T1_r (z30:Bool) (z31:LLM) (z32:Int) (z33:Int) (z34:LLM):T:=mkT 64 [(1,(.ptr 1001 0)),(2,(.tv .bool z30)),(18,(.tv (.sl (.sl (.st 0))) z31)),(19,(.tv i64 z32)),(20,(.tv i64 z33))]
def f6.H1_r (z30:Bool) (z31:LLM) (z32:Int) (z33:Int) (z34:LLM):H:=[(1001,(.box [(.tv (.sl (.sl (.st 0))) z34)]))]
def f6.p1_e2' {R:Type} (L N:Nat) (k0_e0:Option R) (k0_r:Bool→Option R) (rec0:LLM→Int→Int→LLM→Option R) (z15:LLM) (z16:Int) (z17:Int) (z18:LLM):Option R:=
 rec0 z15 z16 (wi (z17+(1:Int))) z18
def f6.p1_e2 {R:Type} (L N:Nat) (k0_e0:Option R) (k0_r:Bool→Option R) (rec0:LLM→Int→Int→LLM→Option R) (z15:LLM) (z16:Int) (z17:Int) (z18:LLM):Option R:=
 f6.p1_e2' L N k0_e0 k0_r rec0 z15 z16 z17 z18
def f6.p1_r' {R:Type} (L N:Nat) (k0_e0:Option R) (k0_r:Bool→Option R) (rec0:LLM→Int→Int→LLM→Option R) (z30:Bool) (z31:LLM) (z32:Int) (z33:Int) (z34:LLM):Option R:=
 k0_r z30
def f6.p1_r {R:Type} (L N:Nat) (k0_e0:Option R) (k0_r:Bool→Option R) (rec0:LLM→Int→Int→LLM→Option R) (z30:Bool) (z31:LLM) (z32:Int) (z33:Int) (z34:LLM):Option R:=
 f6.p1_r' L N k0_e0 k0_r rec0 z30 z31 z32 z33 z34
def f6.s0' {R:Type} (L N:Nat) (k0_e0:Option R) (k0_r:Bool→Option R) (rec0:LLM→Int→Int→LLM→Option R) (w1:LM→LLM→Int→Int→LM→Int→Int→LLM→Option R) (s3:LLM) (s4:Int) (s5:Int) (s6:LLM):Option R:=
 bif (decide (s5<s4)) then
  bif (decide (0≤s5)&&decide (s5<(s3.length:Int))) then
   w1 (listAt s3 [] s5.toNat) s3 s4 s5 (listAt s3 [] s5.toNat) ((listAt s3 [] s5.toNat).length:Int) (0:Int) s6
  else none
 else k0_e0
def f6.s0 {R:Type} (L N:Nat) (k0_e0:Option R) (k0_r:Bool→Option R) (rec0:LLM→Int→Int→LLM→Option R) (s3:LLM) (s4:Int) (s5:Int) (s6:LLM):Option R:=
 f6.s0' L N k0_e0 k0_r rec0 (fun s7 s8 s9 s10 s11 s12 s13 s14=>f6.l1 L N (fun z15 z16 z17 z18=>f6.p1_e2 L N k0_e0 k0_r rec0 z15 z16 z17 z18) (fun z30 z31 z32 z33 z34=>f6.p1_r L N k0_e0 k0_r rec0 z30 z31 z32 z33 z34) L s7 s8 s9 s10 s11 s12 s13 s14) s3 s4 s5 s6
def f6.l0 {R:Type} (L N:Nat) (k0_e0:Option R) (k0_r:Bool→Option R):Nat→LLM→Int→Int→LLM→Option R
 |0,_,_,_,_=>none
 |n+1,s3,s4,s5,s6=>f6.s0 L N k0_e0 k0_r (f6.l0 L N k0_e0 k0_r n) s3 s4 s5 s6
def f6.T0 (s3:LLM) (s4:Int) (s5:Int) (s6:LLM):T:=mkT 64 [(1,(.ptr 1001 0)),(18,(.tv (.sl (.sl (.st 0))) s3)),(19,(.tv i64 s4)),(20,(.tv i64 s5))]
def f6.H0 (s3:LLM) (s4:Int) (s5:Int) (s6:LLM):H:=[(1001,(.box [(.tv (.sl (.sl (.st 0))) s6)]))]
def f6.T0_e0:T:=mkT 64 []
def f6.H0_e0:H:=[]
def f6.T0_r (z43:Bool):T:=mkT 64 [(2,(.tv .bool z43))]
def f6.H0_r (z43:Bool):H:=[]
def f6.p0_e0' {R:Type} (L N:Nat) (k:Bool→Option R):Option R:=
 k true
def f6.p0_e0 {R:Type} (L N:Nat) (k:Bool→Option R):Option R:=
 f6.p0_e0' L N k
def f6.p0_r' {R:Type} (L N:Nat) (k:Bool→Option R) (z43:Bool):Option R:=
 k z43
def f6.p0_r {R:Type} (L N:Nat) (k:Bool→Option R) (z43:Bool):Option R:=
 f6.p0_r' L N k z43
def f6.j0' {R:Type} (L N:Nat) (k:Bool→Option R) (w0:LLM→Int→Int→LLM→Option R) (v2:LLM):Option R:=
 w0 v2 (v2.length:Int) (0:Int) v2
def f6.b' {R:Type} (L N:Nat) (k:Bool→Option R) (w0:LLM→Int→Int→LLM→Option R) (x0:Graph):Option R:=
 bif (decide ((x0.moves.length:Int)<(1:Int))) then
  k false
 else bif (decide ((x0.moves.length:Int)>(60:Int))) then
  k false
 else f6.j0' L N k w0 x0.moves
def f6.b {R:Type} (L N:Nat) (k:Bool→Option R) (x0:Graph):Option R:=
 f6.b' L N k (fun s3 s4 s5 s6=>f6.l0 L N (f6.p0_e0 L N k) (fun z43=>f6.p0_r L N k z43) L s3 s4 s5 s6) x0
def f6 (L N:Nat) (x0:Graph):Option (Bool):=f6.b L N some x0
def f6.ent (L N:Nat):=entRo [(.st 2)] (.one .bool) fun d=>f6 L N d.1
noncomputable def E6 (L N:Nat):Env:={P:=Tryz.prog,ty:=tyOf,Φ:=(Φ23 L N),inl:=inlT,live:=lives,liveX:=livesX,L:=L,dp:=none,prom:=promT,heal:=healT,ren:=renT}
noncomputable def f6.c0:Code:=loopAt 0 (codeOf Tryz.f6)
noncomputable def f6.c1:Code:=loopAt 2 f6.c0
def f6.X1_e2 {R:Type} (κ:KX R):=fun z15 z16 z17 z18=>κ (.exit 2) (f6.T1_e2 z15 z16 z17 z18) (f6.H1_e2 z15 z16 z17 z18)
def f6.X1_r {R:Type} (κ:KX R):=fun z30 z31 z32 z33 z34=>κ .ret (f6.T1_r z30 z31 z32 z33 z34) (f6.H1_r z30 z31 z32 z33 z34)
def f6.R1 {R:Type} (rec:KT R):=fun s7 s8 s9 s10 s11 s12 s13 s14=>rec (f6.T1 s7 s8 s9 s10 s11 s12 s13 s14) (f6.H1 s7 s8 s9 s10 s11 s12 s13 s14)
theorem f6.s1_eq {R:Type} (L N:Nat) (κ:KX R) (rec:KT R) (s7:LM) (s8:LLM) (s9:Int) (s10:Int) (s11:LM) (s12:Int) (s13:Int) (s14:LLM):
  evRd (E6 L N) (evCallI (E6 L N) 1 2000) 1000 6 64 2 f6.c1 κ rec (f6.T1 s7 s8 s9 s10 s11 s12 s13 s14) (f6.H1 s7 s8 s9 s10 s11 s12 s13 s14)
  =f6.s1 L N (f6.X1_e2 κ) (f6.X1_r κ) (f6.R1 rec) s7 s8 s9 s10 s11 s12 s13 s14:=by kernel_rfl
theorem f6.l1_eq {R:Type} (L N:Nat) (κ:KX R):∀(n:Nat) (s7:LM) (s8:LLM) (s9:Int) (s10:Int) (s11:LM) (s12:Int) (s13:Int) (s14:LLM),
  evLp (E6 L N) (evCallI (E6 L N) 1 2000) 1000 6 64 2 f6.c1 κ n (f6.T1 s7 s8 s9 s10 s11 s12 s13 s14) (f6.H1 s7 s8 s9 s10 s11 s12 s13 s14)
  =f6.l1 L N (f6.X1_e2 κ) (f6.X1_r κ) n s7 s8 s9 s10 s11 s12 s13 s14:=by
 intro n
 induction n with
 |zero=>intros;rfl
 |succ n ih=>
  intro s7 s8 s9 s10 s11 s12 s13 s14
  rw [evLp_succ,f6.s1_eq]
  delta f6.R1
  simp only [ih]
  rfl
def f6.X0_e0 {R:Type} (κ:KX R):=κ (.exit 0) f6.T0_e0 f6.H0_e0
def f6.X0_r {R:Type} (κ:KX R):=fun z43=>κ .ret (f6.T0_r z43) (f6.H0_r z43)
def f6.R0 {R:Type} (rec:KT R):=fun s3 s4 s5 s6=>rec (f6.T0 s3 s4 s5 s6) (f6.H0 s3 s4 s5 s6)
theorem f6.p1_e2_eq {R:Type} (L N:Nat) (κ:KX R) (rec:KT R) (z15:LLM) (z16:Int) (z17:Int) (z18:LLM):
  (contAt (E6 L N) (evCallI (E6 L N) 1 2000) 1000 6 64 2 f6.c0 (rdK (E6 L N) 1000 6 64 0 κ rec)) (.exit 2) (f6.T1_e2 z15 z16 z17 z18) (f6.H1_e2 z15 z16 z17 z18)
  =f6.p1_e2 L N (f6.X0_e0 κ) (f6.X0_r κ) (f6.R0 rec) z15 z16 z17 z18:=by kernel_rfl
theorem f6.p1_r_eq {R:Type} (L N:Nat) (κ:KX R) (rec:KT R) (z30:Bool) (z31:LLM) (z32:Int) (z33:Int) (z34:LLM):
  (contAt (E6 L N) (evCallI (E6 L N) 1 2000) 1000 6 64 2 f6.c0 (rdK (E6 L N) 1000 6 64 0 κ rec)) .ret (f6.T1_r z30 z31 z32 z33 z34) (f6.H1_r z30 z31 z32 z33 z34)
  =f6.p1_r L N (f6.X0_e0 κ) (f6.X0_r κ) (f6.R0 rec) z30 z31 z32 z33 z34:=by kernel_rfl
theorem f6.s0_eq {R:Type} (L N:Nat) (κ:KX R) (rec:KT R) (s3:LLM) (s4:Int) (s5:Int) (s6:LLM):
  evRd (E6 L N) (evCallI (E6 L N) 1 2000) 1000 6 64 0 f6.c0 κ rec (f6.T0 s3 s4 s5 s6) (f6.H0 s3 s4 s5 s6)
  =f6.s0 L N (f6.X0_e0 κ) (f6.X0_r κ) (f6.R0 rec) s3 s4 s5 s6:=by
 refine Eq.trans (b:=f6.s0' L N (f6.X0_e0 κ) (f6.X0_r κ) (f6.R0 rec) (fun s7 s8 s9 s10 s11 s12 s13 s14=>evLp (E6 L N) (evCallI (E6 L N) 1 2000) 1000 6 64 2 f6.c1 (contAt (E6 L N) (evCallI (E6 L N) 1 2000) 1000 6 64 2 f6.c0 (rdK (E6 L N) 1000 6 64 0 κ rec)) L (f6.T1 s7 s8 s9 s10 s11 s12 s13 s14) (f6.H1 s7 s8 s9 s10 s11 s12 s13 s14)) s3 s4 s5 s6) (by kernel_rfl) ?_
 unfold f6.s0
 simp only [f6.l1_eq]
 delta f6.X1_e2 f6.X1_r
 simp only [f6.p1_e2_eq,f6.p1_r_eq]
theorem f6.l0_eq {R:Type} (L N:Nat) (κ:KX R):∀(n:Nat) (s3:LLM) (s4:Int) (s5:Int) (s6:LLM),
  evLp (E6 L N) (evCallI (E6 L N) 1 2000) 1000 6 64 0 f6.c0 κ n (f6.T0 s3 s4 s5 s6) (f6.H0 s3 s4 s5 s6)
  =f6.l0 L N (f6.X0_e0 κ) (f6.X0_r κ) n s3 s4 s5 s6:=by
 intro n
 induction n with
 |zero=>intros;rfl
 |succ n ih=>
  intro s3 s4 s5 s6
  rw [evLp_succ,f6.s0_eq]
  delta f6.R0
  simp only [ih]
  rfl
theorem f6.p0_e0_eq {R:Type} (L N:Nat) (κ:AV→Option R):
  (contAt (E6 L N) (evCallI (E6 L N) 1 2000) 1000 6 64 0 (codeOf Tryz.f6) (finK (E6 L N) 1000 Tryz.f6 (finC (.one .bool) κ))) (.exit 0) f6.T0_e0 f6.H0_e0
  =f6.p0_e0 L N (fun a0=>κ (.tv .bool a0)):=by kernel_rfl
theorem f6.p0_r_eq {R:Type} (L N:Nat) (κ:AV→Option R) (z43:Bool):
  (contAt (E6 L N) (evCallI (E6 L N) 1 2000) 1000 6 64 0 (codeOf Tryz.f6) (finK (E6 L N) 1000 Tryz.f6 (finC (.one .bool) κ))) .ret (f6.T0_r z43) (f6.H0_r z43)
  =f6.p0_r L N (fun a0=>κ (.tv .bool a0)) z43:=by kernel_rfl
theorem f6.b_eq {R:Type} (L N:Nat) (κ:AV→Option R) (x0:Graph):
  evBody (E6 L N) (evCallI (E6 L N) 1 2000) 1000 6 Tryz.f6 [(.tv (.st 2) x0)] [] [] (finC (.one .bool) κ)
  =f6.b L N (fun a0=>κ (.tv .bool a0)) x0:=by
 refine Eq.trans (b:=f6.b' L N (fun a0=>κ (.tv .bool a0)) (fun s3 s4 s5 s6=>evLp (E6 L N) (evCallI (E6 L N) 1 2000) 1000 6 64 0 f6.c0 (contAt (E6 L N) (evCallI (E6 L N) 1 2000) 1000 6 64 0 (codeOf Tryz.f6) (finK (E6 L N) 1000 Tryz.f6 (finC (.one .bool) κ))) L (f6.T0 s3 s4 s5 s6) (f6.H0 s3 s4 s5 s6)) x0) (by kernel_rfl) ?_
 unfold f6.b
 simp only [f6.l0_eq]
 delta f6.X0_e0 f6.X0_r
 simp only [f6.p0_e0_eq,f6.p0_r_eq]
theorem f6.ok (L N:Nat) (hΦ:TellsOk Tryz.prog ((Φ23 L N))):EntOk Tryz.prog 6 (f6.ent L N):=entRo_ok (E:=(E6 L N)) (dep:=1000) (f:=Tryz.f6) (sound_of hΦ) okP (callI_sound (sound_of hΦ) okP 1 2000) rfl rfl fun d _ hy=>(f6.b_eq L N (unR (.one .bool)) d.1).trans (Eq.trans (b:=f6.b L N some d.1) (by kernel_rfl) hy)
def Φ6 (L N:Nat):Tells:=(addT (Φ23 L N) 6 (f6.ent L N))
theorem Φ6_ok (L N:Nat):TellsOk Tryz.prog (Φ6 L N):=addT_ok (Φ23_ok L N) (f6.ok L N (Φ23_ok L N))
def f55.s0' {R:Type} (L N:Nat) (k0_e0:Option R) (k0_r:Bool→Option R) (rec0:LI→LI→Int→Int→Option R) (s0:LI) (s1:LI) (s2:Int) (s3:Int):Option R:=
 bif (decide (s3<s2)) then
  bif (decide (0≤s3)&&decide (s3<(s0.length:Int))) then
   bif (decide (0≤s3)&&decide (s3<(s1.length:Int))) then
    bif ((listAt s0 (0:Int) s3.toNat) !=(listAt s1 (0:Int) s3.toNat)) then
     k0_r false
    else rec0 s0 s1 s2 (wi (s3+(1:Int)))
   else none
  else none
 else k0_e0
def f55.s0 {R:Type} (L N:Nat) (k0_e0:Option R) (k0_r:Bool→Option R) (rec0:LI→LI→Int→Int→Option R) (s0:LI) (s1:LI) (s2:Int) (s3:Int):Option R:=
 f55.s0' L N k0_e0 k0_r rec0 s0 s1 s2 s3
def f55.l0 {R:Type} (L N:Nat) (k0_e0:Option R) (k0_r:Bool→Option R):Nat→LI→LI→Int→Int→Option R
 |0,_,_,_,_=>none
 |n+1,s0,s1,s2,s3=>f55.s0 L N k0_e0 k0_r (f55.l0 L N k0_e0 k0_r n) s0 s1 s2 s3
def f55.T0 (s0:LI) (s1:LI) (s2:Int) (s3:Int):T:=mkT 26 [(0,(.tv (.sl i64) s0)),(1,(.tv (.sl i64) s1)),(12,(.tv i64 s2)),(13,(.tv i64 s3))]
def f55.H0 (s0:LI) (s1:LI) (s2:Int) (s3:Int):H:=[]
def f55.T0_e0:T:=mkT 26 []
def f55.H0_e0:H:=[]
def f55.T0_r (z4:Bool):T:=mkT 26 [(4,(.tv .bool z4))]
def f55.H0_r (z4:Bool):H:=[]
def f55.p0_e0' {R:Type} (L N:Nat) (k:Bool→Option R):Option R:=
 k true
def f55.p0_e0 {R:Type} (L N:Nat) (k:Bool→Option R):Option R:=
 f55.p0_e0' L N k
def f55.p0_r' {R:Type} (L N:Nat) (k:Bool→Option R) (z4:Bool):Option R:=
 k z4
def f55.p0_r {R:Type} (L N:Nat) (k:Bool→Option R) (z4:Bool):Option R:=
 f55.p0_r' L N k z4
def f55.b' {R:Type} (L N:Nat) (k:Bool→Option R) (w0:LI→LI→Int→Int→Option R) (x0:LI) (x1:LI):Option R:=
 bif ((x0.length:Int) !=(x1.length:Int)) then
  k false
 else w0 x0 x1 (x0.length:Int) (0:Int)
def f55.b {R:Type} (L N:Nat) (k:Bool→Option R) (x0:LI) (x1:LI):Option R:=
 f55.b' L N k (fun s0 s1 s2 s3=>f55.l0 L N (f55.p0_e0 L N k) (fun z4=>f55.p0_r L N k z4) L s0 s1 s2 s3) x0 x1
def f55 (L N:Nat) (x0:LI) (x1:LI):Option (Bool):=f55.b L N some x0 x1
def f55.ent (L N:Nat):=entRo [(.sl i64),(.sl i64)] (.one .bool) fun d=>f55 L N d.1 d.2.1
noncomputable def E55 (L N:Nat):Env:={P:=Tryz.prog,ty:=tyOf,Φ:=(Φ6 L N),inl:=inlT,live:=lives,liveX:=livesX,L:=L,dp:=none,prom:=promT,heal:=healT,ren:=renT}
noncomputable def f55.c0:Code:=loopAt 0 (codeOf Tryz.f55)
def f55.X0_e0 {R:Type} (κ:KX R):=κ (.exit 0) f55.T0_e0 f55.H0_e0
def f55.X0_r {R:Type} (κ:KX R):=fun z4=>κ .ret (f55.T0_r z4) (f55.H0_r z4)
def f55.R0 {R:Type} (rec:KT R):=fun s0 s1 s2 s3=>rec (f55.T0 s0 s1 s2 s3) (f55.H0 s0 s1 s2 s3)
theorem f55.s0_eq {R:Type} (L N:Nat) (κ:KX R) (rec:KT R) (s0:LI) (s1:LI) (s2:Int) (s3:Int):
  evRd (E55 L N) (evCallI (E55 L N) 1 2000) 1000 55 26 0 f55.c0 κ rec (f55.T0 s0 s1 s2 s3) (f55.H0 s0 s1 s2 s3)
  =f55.s0 L N (f55.X0_e0 κ) (f55.X0_r κ) (f55.R0 rec) s0 s1 s2 s3:=by kernel_rfl
theorem f55.l0_eq {R:Type} (L N:Nat) (κ:KX R):∀(n:Nat) (s0:LI) (s1:LI) (s2:Int) (s3:Int),
  evLp (E55 L N) (evCallI (E55 L N) 1 2000) 1000 55 26 0 f55.c0 κ n (f55.T0 s0 s1 s2 s3) (f55.H0 s0 s1 s2 s3)
  =f55.l0 L N (f55.X0_e0 κ) (f55.X0_r κ) n s0 s1 s2 s3:=by
 intro n
 induction n with
 |zero=>intros;rfl
 |succ n ih=>
  intro s0 s1 s2 s3
  rw [evLp_succ,f55.s0_eq]
  delta f55.R0
  simp only [ih]
  rfl
theorem f55.p0_e0_eq {R:Type} (L N:Nat) (κ:AV→Option R):
  (contAt (E55 L N) (evCallI (E55 L N) 1 2000) 1000 55 26 0 (codeOf Tryz.f55) (finK (E55 L N) 1000 Tryz.f55 (finC (.one .bool) κ))) (.exit 0) f55.T0_e0 f55.H0_e0
  =f55.p0_e0 L N (fun a0=>κ (.tv .bool a0)):=by kernel_rfl
theorem f55.p0_r_eq {R:Type} (L N:Nat) (κ:AV→Option R) (z4:Bool):
  (contAt (E55 L N) (evCallI (E55 L N) 1 2000) 1000 55 26 0 (codeOf Tryz.f55) (finK (E55 L N) 1000 Tryz.f55 (finC (.one .bool) κ))) .ret (f55.T0_r z4) (f55.H0_r z4)
  =f55.p0_r L N (fun a0=>κ (.tv .bool a0)) z4:=by kernel_rfl
theorem f55.b_eq {R:Type} (L N:Nat) (κ:AV→Option R) (x0:LI) (x1:LI):
  evBody (E55 L N) (evCallI (E55 L N) 1 2000) 1000 55 Tryz.f55 [(.tv (.sl i64) x0),(.tv (.sl i64) x1)] [] [] (finC (.one .bool) κ)
  =f55.b L N (fun a0=>κ (.tv .bool a0)) x0 x1:=by
 refine Eq.trans (b:=f55.b' L N (fun a0=>κ (.tv .bool a0)) (fun s0 s1 s2 s3=>evLp (E55 L N) (evCallI (E55 L N) 1 2000) 1000 55 26 0 f55.c0 (contAt (E55 L N) (evCallI (E55 L N) 1 2000) 1000 55 26 0 (codeOf Tryz.f55) (finK (E55 L N) 1000 Tryz.f55 (finC (.one .bool) κ))) L (f55.T0 s0 s1 s2 s3) (f55.H0 s0 s1 s2 s3)) x0 x1) (by kernel_rfl) ?_
 unfold f55.b
 simp only [f55.l0_eq]
 delta f55.X0_e0 f55.X0_r
 simp only [f55.p0_e0_eq,f55.p0_r_eq]
theorem f55.ok (L N:Nat) (hΦ:TellsOk Tryz.prog ((Φ6 L N))):EntOk Tryz.prog 55 (f55.ent L N):=entRo_ok (E:=(E55 L N)) (dep:=1000) (f:=Tryz.f55) (sound_of hΦ) okP (callI_sound (sound_of hΦ) okP 1 2000) rfl rfl fun d _ hy=>(f55.b_eq L N (unR (.one .bool)) d.1 d.2.1).trans (Eq.trans (b:=f55.b L N some d.1 d.2.1) (by kernel_rfl) hy)
def Φ55 (L N:Nat):Tells:=(addT (Φ6 L N) 55 (f55.ent L N))
theorem Φ55_ok (L N:Nat):TellsOk Tryz.prog (Φ55 L N):=addT_ok (Φ6_ok L N) (f55.ok L N (Φ6_ok L N))
def f67.s0' {R:Type} (L N:Nat) (k0_e0:Option R) (k0_r:Bool→Option R) (rec0:LM→LM→Int→Int→Option R) (s0:LM) (s1:LM) (s2:Int) (s3:Int):Option R:=
 bif (decide (s3<s2)) then
  bif (decide (0≤s3)&&decide (s3<(s0.length:Int))) then
   bif (decide (0≤s3)&&decide (s3<(s1.length:Int))) then
    bif (!(Move.eqb (listAt s0 (Ty.dflt (.st 0)) s3.toNat) (listAt s1 (Ty.dflt (.st 0)) s3.toNat))) then
     k0_r false
    else rec0 s0 s1 s2 (wi (s3+(1:Int)))
   else none
  else none
 else k0_e0
def f67.s0 {R:Type} (L N:Nat) (k0_e0:Option R) (k0_r:Bool→Option R) (rec0:LM→LM→Int→Int→Option R) (s0:LM) (s1:LM) (s2:Int) (s3:Int):Option R:=
 f67.s0' L N k0_e0 k0_r rec0 s0 s1 s2 s3
def f67.l0 {R:Type} (L N:Nat) (k0_e0:Option R) (k0_r:Bool→Option R):Nat→LM→LM→Int→Int→Option R
 |0,_,_,_,_=>none
 |n+1,s0,s1,s2,s3=>f67.s0 L N k0_e0 k0_r (f67.l0 L N k0_e0 k0_r n) s0 s1 s2 s3
def f67.T0 (s0:LM) (s1:LM) (s2:Int) (s3:Int):T:=mkT 26 [(0,(.tv (.sl (.st 0)) s0)),(1,(.tv (.sl (.st 0)) s1)),(12,(.tv i64 s2)),(13,(.tv i64 s3))]
def f67.H0 (s0:LM) (s1:LM) (s2:Int) (s3:Int):H:=[]
def f67.T0_e0:T:=mkT 26 []
def f67.H0_e0:H:=[]
def f67.T0_r (z4:Bool):T:=mkT 26 [(4,(.tv .bool z4))]
def f67.H0_r (z4:Bool):H:=[]
def f67.p0_e0' {R:Type} (L N:Nat) (k:Bool→Option R):Option R:=
 k true
def f67.p0_e0 {R:Type} (L N:Nat) (k:Bool→Option R):Option R:=
 f67.p0_e0' L N k
def f67.p0_r' {R:Type} (L N:Nat) (k:Bool→Option R) (z4:Bool):Option R:=
 k z4
def f67.p0_r {R:Type} (L N:Nat) (k:Bool→Option R) (z4:Bool):Option R:=
 f67.p0_r' L N k z4
def f67.b' {R:Type} (L N:Nat) (k:Bool→Option R) (w0:LM→LM→Int→Int→Option R) (x0:LM) (x1:LM):Option R:=
 bif ((x0.length:Int) !=(x1.length:Int)) then
  k false
 else w0 x0 x1 (x0.length:Int) (0:Int)
def f67.b {R:Type} (L N:Nat) (k:Bool→Option R) (x0:LM) (x1:LM):Option R:=
 f67.b' L N k (fun s0 s1 s2 s3=>f67.l0 L N (f67.p0_e0 L N k) (fun z4=>f67.p0_r L N k z4) L s0 s1 s2 s3) x0 x1
def f67 (L N:Nat) (x0:LM) (x1:LM):Option (Bool):=f67.b L N some x0 x1
def f67.ent (L N:Nat):=entRo [(.sl (.st 0)),(.sl (.st 0))] (.one .bool) fun d=>f67 L N d.1 d.2.1
noncomputable def E67 (L N:Nat):Env:={P:=Tryz.prog,ty:=tyOf,Φ:=(Φ55 L N),inl:=inlT,live:=lives,liveX:=livesX,L:=L,dp:=none,prom:=promT,heal:=healT,ren:=renT}
noncomputable def f67.c0:Code:=loopAt 0 (codeOf Tryz.f67)
def f67.X0_e0 {R:Type} (κ:KX R):=κ (.exit 0) f67.T0_e0 f67.H0_e0
def f67.X0_r {R:Type} (κ:KX R):=fun z4=>κ .ret (f67.T0_r z4) (f67.H0_r z4)
def f67.R0 {R:Type} (rec:KT R):=fun s0 s1 s2 s3=>rec (f67.T0 s0 s1 s2 s3) (f67.H0 s0 s1 s2 s3)
theorem f67.s0_eq {R:Type} (L N:Nat) (κ:KX R) (rec:KT R) (s0:LM) (s1:LM) (s2:Int) (s3:Int):
  evRd (E67 L N) (evCallI (E67 L N) 1 2000) 1000 67 26 0 f67.c0 κ rec (f67.T0 s0 s1 s2 s3) (f67.H0 s0 s1 s2 s3)
  =f67.s0 L N (f67.X0_e0 κ) (f67.X0_r κ) (f67.R0 rec) s0 s1 s2 s3:=by kernel_rfl
theorem f67.l0_eq {R:Type} (L N:Nat) (κ:KX R):∀(n:Nat) (s0:LM) (s1:LM) (s2:Int) (s3:Int),
  evLp (E67 L N) (evCallI (E67 L N) 1 2000) 1000 67 26 0 f67.c0 κ n (f67.T0 s0 s1 s2 s3) (f67.H0 s0 s1 s2 s3)
  =f67.l0 L N (f67.X0_e0 κ) (f67.X0_r κ) n s0 s1 s2 s3:=by
 intro n
 induction n with
 |zero=>intros;rfl
 |succ n ih=>
  intro s0 s1 s2 s3
  rw [evLp_succ,f67.s0_eq]
  delta f67.R0
  simp only [ih]
  rfl
theorem f67.p0_e0_eq {R:Type} (L N:Nat) (κ:AV→Option R):
  (contAt (E67 L N) (evCallI (E67 L N) 1 2000) 1000 67 26 0 (codeOf Tryz.f67) (finK (E67 L N) 1000 Tryz.f67 (finC (.one .bool) κ))) (.exit 0) f67.T0_e0 f67.H0_e0
  =f67.p0_e0 L N (fun a0=>κ (.tv .bool a0)):=by kernel_rfl
theorem f67.p0_r_eq {R:Type} (L N:Nat) (κ:AV→Option R) (z4:Bool):
  (contAt (E67 L N) (evCallI (E67 L N) 1 2000) 1000 67 26 0 (codeOf Tryz.f67) (finK (E67 L N) 1000 Tryz.f67 (finC (.one .bool) κ))) .ret (f67.T0_r z4) (f67.H0_r z4)
  =f67.p0_r L N (fun a0=>κ (.tv .bool a0)) z4:=by kernel_rfl
theorem f67.b_eq {R:Type} (L N:Nat) (κ:AV→Option R) (x0:LM) (x1:LM):
  evBody (E67 L N) (evCallI (E67 L N) 1 2000) 1000 67 Tryz.f67 [(.tv (.sl (.st 0)) x0),(.tv (.sl (.st 0)) x1)] [] [] (finC (.one .bool) κ)
  =f67.b L N (fun a0=>κ (.tv .bool a0)) x0 x1:=by
 refine Eq.trans (b:=f67.b' L N (fun a0=>κ (.tv .bool a0)) (fun s0 s1 s2 s3=>evLp (E67 L N) (evCallI (E67 L N) 1 2000) 1000 67 26 0 f67.c0 (contAt (E67 L N) (evCallI (E67 L N) 1 2000) 1000 67 26 0 (codeOf Tryz.f67) (finK (E67 L N) 1000 Tryz.f67 (finC (.one .bool) κ))) L (f67.T0 s0 s1 s2 s3) (f67.H0 s0 s1 s2 s3)) x0 x1) (by kernel_rfl) ?_
 unfold f67.b
 simp only [f67.l0_eq]
 delta f67.X0_e0 f67.X0_r
 simp only [f67.p0_e0_eq,f67.p0_r_eq]
theorem f67.ok (L N:Nat) (hΦ:TellsOk Tryz.prog ((Φ55 L N))):EntOk Tryz.prog 67 (f67.ent L N):=entRo_ok (E:=(E67 L N)) (dep:=1000) (f:=Tryz.f67) (sound_of hΦ) okP (callI_sound (sound_of hΦ) okP 1 2000) rfl rfl fun d _ hy=>(f67.b_eq L N (unR (.one .bool)) d.1 d.2.1).trans (Eq.trans (b:=f67.b L N some d.1 d.2.1) (by kernel_rfl) hy)
def Φ67 (L N:Nat):Tells:=(addT (Φ55 L N) 67 (f67.ent L N))
theorem Φ67_ok (L N:Nat):TellsOk Tryz.prog (Φ67 L N):=addT_ok (Φ55_ok L N) (f67.ok L N (Φ55_ok L N))
def f51_1.s0' {R:Type} (L N:Nat) (k0_e0:LM→Option R) (rec0:LI→LM→Int→Int→LM→Option R) (s0:LI) (s1:LM) (s2:Int) (s3:Int) (s4:LM):Option R:=
 bif (decide (s3<s2)) then
  bif (decide (0≤s3)&&decide (s3<(s1.length:Int))) then
   bif (decide (0≤(listAt s1 (Ty.dflt (.st 0)) s3.toNat).to)&&decide ((listAt s1 (Ty.dflt (.st 0)) s3.toNat).to<(s0.length:Int))) then
    bif (decide (s4.length+([(Move.mk ((listAt s1 (Ty.dflt (.st 0)) s3.toNat).act) (listAt s0 (0:Int) ((listAt s1 (Ty.dflt (.st 0)) s3.toNat).to).toNat))]:LM).length≤lim)) then
     rec0 s0 s1 s2 (wi (s3+(1:Int))) (s4++([(Move.mk ((listAt s1 (Ty.dflt (.st 0)) s3.toNat).act) (listAt s0 (0:Int) ((listAt s1 (Ty.dflt (.st 0)) s3.toNat).to).toNat))]:LM))
    else none
   else none
  else none
 else k0_e0 s4
def f51_1.s0 {R:Type} (L N:Nat) (k0_e0:LM→Option R) (rec0:LI→LM→Int→Int→LM→Option R) (s0:LI) (s1:LM) (s2:Int) (s3:Int) (s4:LM):Option R:=
 f51_1.s0' L N k0_e0 rec0 s0 s1 s2 s3 s4
def f51_1.l0 {R:Type} (L N:Nat) (k0_e0:LM→Option R):Nat→LI→LM→Int→Int→LM→Option R
 |0,_,_,_,_,_=>none
 |n+1,s0,s1,s2,s3,s4=>f51_1.s0 L N k0_e0 (f51_1.l0 L N k0_e0 n) s0 s1 s2 s3 s4
def f51_1.T0 (s0:LI) (s1:LM) (s2:Int) (s3:Int) (s4:LM):T:=mkT 34 [(0,(.tv (.sl i64) s0)),(6,(.row 1009)),(14,(.tv (.sl (.st 0)) s1)),(15,(.tv i64 s2)),(16,(.tv i64 s3))]
def f51_1.H0 (s0:LI) (s1:LM) (s2:Int) (s3:Int) (s4:LM):H:=[(1009,(.row 45 (.st 0) s4))]
def f51_1.T0_e0 (z5:LM):T:=mkT 34 [(6,(.row 1009))]
def f51_1.H0_e0 (z5:LM):H:=[(1009,(.row 45 (.st 0) z5))]
def f51_1.p0_e0' {R:Type} (L N:Nat) (k:LM→Option R) (z5:LM):Option R:=
 ((fsortM z5)).bind fun y6=>
 k (tidyM z5)
def f51_1.p0_e0 {R:Type} (L N:Nat) (k:LM→Option R) (z5:LM):Option R:=
 f51_1.p0_e0' L N k z5
def f51_1.b' {R:Type} (L N:Nat) (k:LM→Option R) (w0:LI→LM→Int→Int→LM→Option R) (x0:LI) (x1:Int) (x2:LLM):Option R:=
 bif (decide (0≤x1)&&decide (x1<(x2.length:Int))) then
  w0 x0 (listAt x2 [] x1.toNat) ((listAt x2 [] x1.toNat).length:Int) (0:Int) ([]:LM)
 else none
def f51_1.b {R:Type} (L N:Nat) (k:LM→Option R) (x0:LI) (x1:Int) (x2:LLM):Option R:=
 f51_1.b' L N k (fun s0 s1 s2 s3 s4=>f51_1.l0 L N (fun z5=>f51_1.p0_e0 L N k z5) L s0 s1 s2 s3 s4) x0 x1 x2
def f51_1 (L N:Nat) (x0:LI) (x1:Int) (x2:LLM):Option (LM):=f51_1.b L N some x0 x1 x2
def f51_1.ent (L N:Nat):=entDf [(.dat (.sl i64)),(.dat i64),(.imp (.sl (.sl (.st 0))) 0)] (.one (.sl (.st 0))) fun d=>f51_1 L N d.1 d.2.1 d.2.2.1
noncomputable def E51_1 (L N:Nat):Env:={P:=Tryz.prog,ty:=tyOf,Φ:=(Φ67 L N),inl:=inlT,live:=lives,liveX:=livesX,L:=L,dp:=none,prom:=promT,heal:=healT,ren:=renT}
noncomputable def f51_1.c0:Code:=loopAt 0 (codeOf Tryz.f51)
def f51_1.X0_e0 {R:Type} (κ:KX R):=fun z5=>κ (.exit 0) (f51_1.T0_e0 z5) (f51_1.H0_e0 z5)
def f51_1.R0 {R:Type} (rec:KT R):=fun s0 s1 s2 s3 s4=>rec (f51_1.T0 s0 s1 s2 s3 s4) (f51_1.H0 s0 s1 s2 s3 s4)
theorem f51_1.s0_eq {R:Type} (L N:Nat) (κ:KX R) (rec:KT R) (s0:LI) (s1:LM) (s2:Int) (s3:Int) (s4:LM):
  evRd (E51_1 L N) (evCallI (E51_1 L N) 1 2000) 1000 51 34 0 f51_1.c0 κ rec (f51_1.T0 s0 s1 s2 s3 s4) (f51_1.H0 s0 s1 s2 s3 s4)
  =f51_1.s0 L N (f51_1.X0_e0 κ) (f51_1.R0 rec) s0 s1 s2 s3 s4:=by kernel_rfl
theorem f51_1.l0_eq {R:Type} (L N:Nat) (κ:KX R):∀(n:Nat) (s0:LI) (s1:LM) (s2:Int) (s3:Int) (s4:LM),
  evLp (E51_1 L N) (evCallI (E51_1 L N) 1 2000) 1000 51 34 0 f51_1.c0 κ n (f51_1.T0 s0 s1 s2 s3 s4) (f51_1.H0 s0 s1 s2 s3 s4)
  =f51_1.l0 L N (f51_1.X0_e0 κ) n s0 s1 s2 s3 s4:=by
 intro n
 induction n with
 |zero=>intros;rfl
 |succ n ih=>
  intro s0 s1 s2 s3 s4
  rw [evLp_succ,f51_1.s0_eq]
  delta f51_1.R0
  simp only [ih]
  rfl
theorem f51_1.p0_e0_eq {R:Type} (L N:Nat) (κ:AV→Option R) (z5:LM):
  (contAt (E51_1 L N) (evCallI (E51_1 L N) 1 2000) 1000 51 34 0 (codeOf Tryz.f51) (finK (E51_1 L N) 1000 Tryz.f51 (finC (.one (.sl (.st 0))) κ))) (.exit 0) (f51_1.T0_e0 z5) (f51_1.H0_e0 z5)
  =f51_1.p0_e0 L N (fun a0=>κ (.tv (.sl (.st 0)) a0)) z5:=by kernel_rfl
theorem f51_1.b_eq {R:Type} (L N:Nat) (κ:AV→Option R) (x0:LI) (x1:Int) (x2:LLM):
  evBody (E51_1 L N) (evCallI (E51_1 L N) 1 2000) 1000 51 Tryz.f51 [(.tv (.sl i64) x0),(.tv i64 x1),(.imp (.sl (.sl (.st 0))) x2 0)] [] [] (finC (.one (.sl (.st 0))) κ)
  =f51_1.b L N (fun a0=>κ (.tv (.sl (.st 0)) a0)) x0 x1 x2:=by
 refine Eq.trans (b:=f51_1.b' L N (fun a0=>κ (.tv (.sl (.st 0)) a0)) (fun s0 s1 s2 s3 s4=>evLp (E51_1 L N) (evCallI (E51_1 L N) 1 2000) 1000 51 34 0 f51_1.c0 (contAt (E51_1 L N) (evCallI (E51_1 L N) 1 2000) 1000 51 34 0 (codeOf Tryz.f51) (finK (E51_1 L N) 1000 Tryz.f51 (finC (.one (.sl (.st 0))) κ))) L (f51_1.T0 s0 s1 s2 s3 s4) (f51_1.H0 s0 s1 s2 s3 s4)) x0 x1 x2) (by kernel_rfl) ?_
 unfold f51_1.b
 simp only [f51_1.l0_eq]
 delta f51_1.X0_e0
 simp only [f51_1.p0_e0_eq]
theorem f51_1.ok (L N:Nat) (hΦ:TellsOk Tryz.prog ((Φ67 L N))):EntOkO Tryz.prog 51 (f51_1.ent L N):=entDf_ok (E:=(E51_1 L N)) (dep:=1000) (f:=Tryz.f51) (sound_of hΦ) okP (callI_sound (sound_of hΦ) okP 1 2000) rfl fun d _ hy=>(f51_1.b_eq L N (unR (.one (.sl (.st 0)))) d.1 d.2.1 d.2.2.1).trans (Eq.trans (b:=f51_1.b L N some d.1 d.2.1 d.2.2.1) (by kernel_rfl) hy)
def Φ51_1 (L N:Nat):Tells:=(addO (Φ67 L N) 51 (f51_1.ent L N))
theorem Φ51_1_ok (L N:Nat):TellsOk Tryz.prog (Φ51_1 L N):=addO_ok (Φ67_ok L N) (f51_1.ok L N (Φ67_ok L N))
def f54_1.b' {R:Type} (L N:Nat) (k:LM→Option R) (x0:Int) (x1:LLM) (x2:LI):Option R:=
 (f51_1 L N x2 x0 x1).bind fun y0=>
 k y0
def f54_1.b {R:Type} (L N:Nat) (k:LM→Option R) (x0:Int) (x1:LLM) (x2:LI):Option R:=
 f54_1.b' L N k x0 x1 x2
def f54_1 (L N:Nat) (x0:Int) (x1:LLM) (x2:LI):Option (LM):=f54_1.b L N some x0 x1 x2
def f54_1.ent (L N:Nat):=entDf [(.dat i64),(.pfn 51 [(.imp (.sl (.sl (.st 0))) 0)]),(.imp (.sl i64) 0)] (.one (.sl (.st 0))) fun d=>f54_1 L N d.1 d.2.1.1 d.2.2.1
noncomputable def E54_1 (L N:Nat):Env:={P:=Tryz.prog,ty:=tyOf,Φ:=(Φ51_1 L N),inl:=inlT,live:=lives,liveX:=livesX,L:=L,dp:=none,prom:=promT,heal:=healT,ren:=renT}
theorem f54_1.b_eq {R:Type} (L N:Nat) (κ:AV→Option R) (x0:Int) (x1:LLM) (x2:LI):
  evBody (E54_1 L N) (evCallI (E54_1 L N) 1 2000) 1000 54 Tryz.f54 [(.tv i64 x0),(.imf 51 [(.imp (.sl (.sl (.st 0))) x1 0)]),(.imp (.sl i64) x2 0)] [] [] (finC (.one (.sl (.st 0))) κ)
  =f54_1.b L N (fun a0=>κ (.tv (.sl (.st 0)) a0)) x0 x1 x2:=by kernel_rfl
theorem f54_1.ok (L N:Nat) (hΦ:TellsOk Tryz.prog ((Φ51_1 L N))):EntOkO Tryz.prog 54 (f54_1.ent L N):=entDf_ok (E:=(E54_1 L N)) (dep:=1000) (f:=Tryz.f54) (sound_of hΦ) okP (callI_sound (sound_of hΦ) okP 1 2000) rfl fun d _ hy=>(f54_1.b_eq L N (unR (.one (.sl (.st 0)))) d.1 d.2.1.1 d.2.2.1).trans (Eq.trans (b:=f54_1.b L N some d.1 d.2.1.1 d.2.2.1) (by kernel_rfl) hy)
def Φ54_1 (L N:Nat):Tells:=(addO (Φ51_1 L N) 54 (f54_1.ent L N))
theorem Φ54_1_ok (L N:Nat):TellsOk Tryz.prog (Φ54_1 L N):=addO_ok (Φ51_1_ok L N) (f54_1.ok L N (Φ51_1_ok L N))
def f53_1.j0' {R:Type} (L N:Nat) (k1_e2:LI→LLM→LI→Int→Int→LI→LLM→Option R) (rec1:LI→LLM→LI→Int→Int→Int→Int→LI→LLM→Option R) (v26:LI) (v27:LLM) (v28:LI) (v29:Int) (v30:Int) (v31:Int) (v32:Int) (v33:Bool) (v34:LI) (v35:LLM):Option R:=
 bif v33 then
  bif (decide (0≤v29)&&decide (v29<(v34.length:Int))) then
   k1_e2 v26 v27 v28 v31 v32 (v34.set v29.toNat v30) v35
  else none
 else rec1 v26 v27 v28 v29 (wi (v30+(1:Int))) v31 v32 v34 v35
def f53_1.s1' {R:Type} (L N:Nat) (k1_e2:LI→LLM→LI→Int→Int→LI→LLM→Option R) (rec1:LI→LLM→LI→Int→Int→Int→Int→LI→LLM→Option R) (s9:LI) (s10:LLM) (s11:LI) (s12:Int) (s13:Int) (s14:Int) (s15:Int) (s16:LI) (s17:LLM):Option R:=
 bif (decide (s13<s12)) then
  bif (decide (0≤s13)&&decide (s13<(s9.length:Int))) then
   bif (decide (0≤s12)&&decide (s12<(s9.length:Int))) then
    bif ((listAt s9 (0:Int) s13.toNat)==(listAt s9 (0:Int) s12.toNat)) then
     bif (decide (0≤s13)&&decide (s13<(s17.length:Int))) then
      bif (decide (0≤s12)&&decide (s12<(s17.length:Int))) then
       (f67 L N (listAt s17 [] s13.toNat) (listAt s17 [] s12.toNat)).bind fun y25=>
       f53_1.j0' L N k1_e2 rec1 s9 s10 s11 s12 s13 s14 s15 y25 s16 s17
      else none
     else none
    else f53_1.j0' L N k1_e2 rec1 s9 s10 s11 s12 s13 s14 s15 false s16 s17
   else none
  else none
 else k1_e2 s9 s10 s11 s14 s15 s16 s17
def f53_1.s1 {R:Type} (L N:Nat) (k1_e2:LI→LLM→LI→Int→Int→LI→LLM→Option R) (rec1:LI→LLM→LI→Int→Int→Int→Int→LI→LLM→Option R) (s9:LI) (s10:LLM) (s11:LI) (s12:Int) (s13:Int) (s14:Int) (s15:Int) (s16:LI) (s17:LLM):Option R:=
 f53_1.s1' L N k1_e2 rec1 s9 s10 s11 s12 s13 s14 s15 s16 s17
def f53_1.l1 {R:Type} (L N:Nat) (k1_e2:LI→LLM→LI→Int→Int→LI→LLM→Option R):Nat→LI→LLM→LI→Int→Int→Int→Int→LI→LLM→Option R
 |0,_,_,_,_,_,_,_,_,_=>none
 |n+1,s9,s10,s11,s12,s13,s14,s15,s16,s17=>f53_1.s1 L N k1_e2 (f53_1.l1 L N k1_e2 n) s9 s10 s11 s12 s13 s14 s15 s16 s17
def f53_1.T1 (s9:LI) (s10:LLM) (s11:LI) (s12:Int) (s13:Int) (s14:Int) (s15:Int) (s16:LI) (s17:LLM):T:=mkT 61 [(0,(.tv (.sl i64) s9)),(1,(.fn 54 [(.imf 51 [(.imp (.sl (.sl (.st 0))) s10 0)]),(.imp (.sl i64) s11 0)])),(5,(.row 1011)),(6,(.row 1014)),(7,(.tv i64 s12)),(8,(.tv i64 s13)),(16,(.tv i64 s14)),(17,(.tv i64 s15))]
def f53_1.H1 (s9:LI) (s10:LLM) (s11:LI) (s12:Int) (s13:Int) (s14:Int) (s15:Int) (s16:LI) (s17:LLM):H:=[(1011,(.row 3 i64 s16)),(1014,(.row 43 (.sl (.st 0)) s17))]
def f53_1.T1_e2 (z18:LI) (z19:LLM) (z20:LI) (z21:Int) (z22:Int) (z23:LI) (z24:LLM):T:=mkT 61 [(0,(.tv (.sl i64) z18)),(1,(.fn 54 [(.imf 51 [(.imp (.sl (.sl (.st 0))) z19 0)]),(.imp (.sl i64) z20 0)])),(5,(.row 1011)),(6,(.row 1014)),(16,(.tv i64 z21)),(17,(.tv i64 z22))]
def f53_1.H1_e2 (z18:LI) (z19:LLM) (z20:LI) (z21:Int) (z22:Int) (z23:LI) (z24:LLM):H:=[(1011,(.row 3 i64 z23)),(1014,(.row 43 (.sl (.st 0)) z24))]
def f53_1.p1_e2' {R:Type} (L N:Nat) (k0_e0:LI→Option R) (rec0:LI→LLM→LI→Int→Int→LI→LLM→Option R) (z18:LI) (z19:LLM) (z20:LI) (z21:Int) (z22:Int) (z23:LI) (z24:LLM):Option R:=
 rec0 z18 z19 z20 z21 (wi (z22+(1:Int))) z23 z24
def f53_1.p1_e2 {R:Type} (L N:Nat) (k0_e0:LI→Option R) (rec0:LI→LLM→LI→Int→Int→LI→LLM→Option R) (z18:LI) (z19:LLM) (z20:LI) (z21:Int) (z22:Int) (z23:LI) (z24:LLM):Option R:=
 f53_1.p1_e2' L N k0_e0 rec0 z18 z19 z20 z21 z22 z23 z24
def f53_1.s0' {R:Type} (L N:Nat) (k0_e0:LI→Option R) (rec0:LI→LLM→LI→Int→Int→LI→LLM→Option R) (w1:LI→LLM→LI→Int→Int→Int→Int→LI→LLM→Option R) (s0:LI) (s1:LLM) (s2:LI) (s3:Int) (s4:Int) (s5:LI) (s6:LLM):Option R:=
 bif (decide (s4<s3)) then
  (f54_1 L N s4 s1 s2).bind fun y8=>
  bif (decide (0≤s4)&&decide (s4<(s6.length:Int))) then
   bif (decide (0≤s4)&&decide (s4<(s5.length:Int))) then
    w1 s0 s1 s2 s4 (0:Int) s3 s4 (s5.set s4.toNat s4) (s6.set s4.toNat y8)
   else none
  else none
 else k0_e0 s5
def f53_1.s0 {R:Type} (L N:Nat) (k0_e0:LI→Option R) (rec0:LI→LLM→LI→Int→Int→LI→LLM→Option R) (s0:LI) (s1:LLM) (s2:LI) (s3:Int) (s4:Int) (s5:LI) (s6:LLM):Option R:=
 f53_1.s0' L N k0_e0 rec0 (fun s9 s10 s11 s12 s13 s14 s15 s16 s17=>f53_1.l1 L N (fun z18 z19 z20 z21 z22 z23 z24=>f53_1.p1_e2 L N k0_e0 rec0 z18 z19 z20 z21 z22 z23 z24) L s9 s10 s11 s12 s13 s14 s15 s16 s17) s0 s1 s2 s3 s4 s5 s6
def f53_1.l0 {R:Type} (L N:Nat) (k0_e0:LI→Option R):Nat→LI→LLM→LI→Int→Int→LI→LLM→Option R
 |0,_,_,_,_,_,_,_=>none
 |n+1,s0,s1,s2,s3,s4,s5,s6=>f53_1.s0 L N k0_e0 (f53_1.l0 L N k0_e0 n) s0 s1 s2 s3 s4 s5 s6
def f53_1.T0 (s0:LI) (s1:LLM) (s2:LI) (s3:Int) (s4:Int) (s5:LI) (s6:LLM):T:=mkT 61 [(0,(.tv (.sl i64) s0)),(1,(.fn 54 [(.imf 51 [(.imp (.sl (.sl (.st 0))) s1 0)]),(.imp (.sl i64) s2 0)])),(5,(.row 1011)),(6,(.row 1014)),(16,(.tv i64 s3)),(17,(.tv i64 s4))]
def f53_1.H0 (s0:LI) (s1:LLM) (s2:LI) (s3:Int) (s4:Int) (s5:LI) (s6:LLM):H:=[(1011,(.row 3 i64 s5)),(1014,(.row 43 (.sl (.st 0)) s6))]
def f53_1.T0_e0 (z7:LI):T:=mkT 61 [(5,(.row 1011))]
def f53_1.H0_e0 (z7:LI):H:=[(1011,(.row 3 i64 z7))]
def f53_1.p0_e0' {R:Type} (L N:Nat) (k:LI→Option R) (z7:LI):Option R:=
 k z7
def f53_1.p0_e0 {R:Type} (L N:Nat) (k:LI→Option R) (z7:LI):Option R:=
 f53_1.p0_e0' L N k z7
def f53_1.b' {R:Type} (L N:Nat) (k:LI→Option R) (w0:LI→LLM→LI→Int→Int→LI→LLM→Option R) (x0:LI) (x1:LLM) (x2:LI):Option R:=
 bif (decide (0≤(x0.length:Int))&&decide ((x0.length:Int)≤(lim:Int))) then
  bif (decide (0≤(x0.length:Int))&&decide ((x0.length:Int)≤(lim:Int))) then
   w0 x0 x1 x2 (x0.length:Int) (0:Int) (List.replicate (x0.length:Int).toNat (0:Int)) (List.replicate (x0.length:Int).toNat [])
  else none
 else none
def f53_1.b {R:Type} (L N:Nat) (k:LI→Option R) (x0:LI) (x1:LLM) (x2:LI):Option R:=
 f53_1.b' L N k (fun s0 s1 s2 s3 s4 s5 s6=>f53_1.l0 L N (fun z7=>f53_1.p0_e0 L N k z7) L s0 s1 s2 s3 s4 s5 s6) x0 x1 x2
def f53_1 (L N:Nat) (x0:LI) (x1:LLM) (x2:LI):Option (LI):=f53_1.b L N some x0 x1 x2
def f53_1.ent (L N:Nat) (args:List AV) (vw:View) (site:Nat):Option Ans:=match shD [(.dat (.sl i64)),(.fn 54 [(.pfn 51 [(.imp (.sl (.sl (.st 0))) 0)]),(.imp (.sl i64) 0)])] vw args with
 |some d=>some ⟨LI,f53_1 L N d.1 d.2.1.1.1 d.2.1.2.1,fun y=>(RN.av site .row (),[(site,some (mkO none 3 i64 y))],[])⟩
 |none=>none
noncomputable def E53_1 (L N:Nat):Env:={P:=Tryz.prog,ty:=tyOf,Φ:=(Φ54_1 L N),inl:=inlT,live:=lives,liveX:=livesX,L:=L,dp:=none,prom:=promT,heal:=healT,ren:=renT}
noncomputable def f53_1.c0:Code:=loopAt 0 (codeOf Tryz.f53)
noncomputable def f53_1.c1:Code:=loopAt 2 f53_1.c0
def f53_1.X1_e2 {R:Type} (κ:KX R):=fun z18 z19 z20 z21 z22 z23 z24=>κ (.exit 2) (f53_1.T1_e2 z18 z19 z20 z21 z22 z23 z24) (f53_1.H1_e2 z18 z19 z20 z21 z22 z23 z24)
def f53_1.R1 {R:Type} (rec:KT R):=fun s9 s10 s11 s12 s13 s14 s15 s16 s17=>rec (f53_1.T1 s9 s10 s11 s12 s13 s14 s15 s16 s17) (f53_1.H1 s9 s10 s11 s12 s13 s14 s15 s16 s17)
theorem f53_1.s1_eq {R:Type} (L N:Nat) (κ:KX R) (rec:KT R) (s9:LI) (s10:LLM) (s11:LI) (s12:Int) (s13:Int) (s14:Int) (s15:Int) (s16:LI) (s17:LLM):
  evRd (E53_1 L N) (evCallI (E53_1 L N) 1 2000) 1000 53 61 2 f53_1.c1 κ rec (f53_1.T1 s9 s10 s11 s12 s13 s14 s15 s16 s17) (f53_1.H1 s9 s10 s11 s12 s13 s14 s15 s16 s17)
  =f53_1.s1 L N (f53_1.X1_e2 κ) (f53_1.R1 rec) s9 s10 s11 s12 s13 s14 s15 s16 s17:=by kernel_rfl
theorem f53_1.l1_eq {R:Type} (L N:Nat) (κ:KX R):∀(n:Nat) (s9:LI) (s10:LLM) (s11:LI) (s12:Int) (s13:Int) (s14:Int) (s15:Int) (s16:LI) (s17:LLM),
  evLp (E53_1 L N) (evCallI (E53_1 L N) 1 2000) 1000 53 61 2 f53_1.c1 κ n (f53_1.T1 s9 s10 s11 s12 s13 s14 s15 s16 s17) (f53_1.H1 s9 s10 s11 s12 s13 s14 s15 s16 s17)
  =f53_1.l1 L N (f53_1.X1_e2 κ) n s9 s10 s11 s12 s13 s14 s15 s16 s17:=by
 intro n
 induction n with
 |zero=>intros;rfl
 |succ n ih=>
  intro s9 s10 s11 s12 s13 s14 s15 s16 s17
  rw [evLp_succ,f53_1.s1_eq]
  delta f53_1.R1
  simp only [ih]
  rfl
def f53_1.X0_e0 {R:Type} (κ:KX R):=fun z7=>κ (.exit 0) (f53_1.T0_e0 z7) (f53_1.H0_e0 z7)
def f53_1.R0 {R:Type} (rec:KT R):=fun s0 s1 s2 s3 s4 s5 s6=>rec (f53_1.T0 s0 s1 s2 s3 s4 s5 s6) (f53_1.H0 s0 s1 s2 s3 s4 s5 s6)
theorem f53_1.p1_e2_eq {R:Type} (L N:Nat) (κ:KX R) (rec:KT R) (z18:LI) (z19:LLM) (z20:LI) (z21:Int) (z22:Int) (z23:LI) (z24:LLM):
  (contAt (E53_1 L N) (evCallI (E53_1 L N) 1 2000) 1000 53 61 2 f53_1.c0 (rdK (E53_1 L N) 1000 53 61 0 κ rec)) (.exit 2) (f53_1.T1_e2 z18 z19 z20 z21 z22 z23 z24) (f53_1.H1_e2 z18 z19 z20 z21 z22 z23 z24)
  =f53_1.p1_e2 L N (f53_1.X0_e0 κ) (f53_1.R0 rec) z18 z19 z20 z21 z22 z23 z24:=by kernel_rfl
theorem f53_1.s0_eq {R:Type} (L N:Nat) (κ:KX R) (rec:KT R) (s0:LI) (s1:LLM) (s2:LI) (s3:Int) (s4:Int) (s5:LI) (s6:LLM):
  evRd (E53_1 L N) (evCallI (E53_1 L N) 1 2000) 1000 53 61 0 f53_1.c0 κ rec (f53_1.T0 s0 s1 s2 s3 s4 s5 s6) (f53_1.H0 s0 s1 s2 s3 s4 s5 s6)
  =f53_1.s0 L N (f53_1.X0_e0 κ) (f53_1.R0 rec) s0 s1 s2 s3 s4 s5 s6:=by
 refine Eq.trans (b:=f53_1.s0' L N (f53_1.X0_e0 κ) (f53_1.R0 rec) (fun s9 s10 s11 s12 s13 s14 s15 s16 s17=>evLp (E53_1 L N) (evCallI (E53_1 L N) 1 2000) 1000 53 61 2 f53_1.c1 (contAt (E53_1 L N) (evCallI (E53_1 L N) 1 2000) 1000 53 61 2 f53_1.c0 (rdK (E53_1 L N) 1000 53 61 0 κ rec)) L (f53_1.T1 s9 s10 s11 s12 s13 s14 s15 s16 s17) (f53_1.H1 s9 s10 s11 s12 s13 s14 s15 s16 s17)) s0 s1 s2 s3 s4 s5 s6) (by kernel_rfl) ?_
 unfold f53_1.s0
 simp only [f53_1.l1_eq]
 delta f53_1.X1_e2
 simp only [f53_1.p1_e2_eq]
theorem f53_1.l0_eq {R:Type} (L N:Nat) (κ:KX R):∀(n:Nat) (s0:LI) (s1:LLM) (s2:LI) (s3:Int) (s4:Int) (s5:LI) (s6:LLM),
  evLp (E53_1 L N) (evCallI (E53_1 L N) 1 2000) 1000 53 61 0 f53_1.c0 κ n (f53_1.T0 s0 s1 s2 s3 s4 s5 s6) (f53_1.H0 s0 s1 s2 s3 s4 s5 s6)
  =f53_1.l0 L N (f53_1.X0_e0 κ) n s0 s1 s2 s3 s4 s5 s6:=by
 intro n
 induction n with
 |zero=>intros;rfl
 |succ n ih=>
  intro s0 s1 s2 s3 s4 s5 s6
  rw [evLp_succ,f53_1.s0_eq]
  delta f53_1.R0
  simp only [ih]
  rfl
theorem f53_1.p0_e0_eq {R:Type} (L N:Nat) (κ:RN.Den .row→List Int→Option R) (z7:LI):
  (contAt (E53_1 L N) (evCallI (E53_1 L N) 1 2000) 1000 53 61 0 (codeOf Tryz.f53) (finK (E53_1 L N) 1000 Tryz.f53 (finN .row none 3 i64 κ))) (.exit 0) (f53_1.T0_e0 z7) (f53_1.H0_e0 z7)
  =f53_1.p0_e0 L N (fun a0=>κ () a0) z7:=by kernel_rfl
theorem f53_1.b_eq {R:Type} (L N:Nat) (κ:RN.Den .row→List Int→Option R) (x0:LI) (x1:LLM) (x2:LI):
  evBody (E53_1 L N) (evCallI (E53_1 L N) 1 2000) 1000 53 Tryz.f53 [(.tv (.sl i64) x0),(.fn 54 [(.imf 51 [(.imp (.sl (.sl (.st 0))) x1 0)]),(.imp (.sl i64) x2 0)])] [] [] (finN .row none 3 i64 κ)
  =f53_1.b L N (fun a0=>κ () a0) x0 x1 x2:=by
 refine Eq.trans (b:=f53_1.b' L N (fun a0=>κ () a0) (fun s0 s1 s2 s3 s4 s5 s6=>evLp (E53_1 L N) (evCallI (E53_1 L N) 1 2000) 1000 53 61 0 f53_1.c0 (contAt (E53_1 L N) (evCallI (E53_1 L N) 1 2000) 1000 53 61 0 (codeOf Tryz.f53) (finK (E53_1 L N) 1000 Tryz.f53 (finN .row none 3 i64 κ))) L (f53_1.T0 s0 s1 s2 s3 s4 s5 s6) (f53_1.H0 s0 s1 s2 s3 s4 s5 s6)) x0 x1 x2) (by kernel_rfl) ?_
 unfold f53_1.b
 simp only [f53_1.l0_eq]
 delta f53_1.X0_e0
 simp only [f53_1.p0_e0_eq]
theorem f53_1.ok (L N:Nat) (hΦ:TellsOk Tryz.prog ((Φ54_1 L N))):EntOkO Tryz.prog 53 (f53_1.ent L N):=by
 intro args vw site h a ha
 unfold f53_1.ent at ha
 split at ha
 ·rename_i d hd
  obtain rfl:=Option.some.inj ha
  intro y hy hs
  refine call_ronF (y:=y) (dep:=1000) (E:=(E53_1 L N)) (rn:=.row) (q:=none) (el:=3) (ty:=i64) (d1:=()) (xs:=y) (κ:=(fun d xs=>some xs)) (sound_of hΦ) okP (callI_sound (sound_of hΦ) okP 1 2000) (f:=Tryz.f53) rfl hs hd ?_ (fun _ _ h=>by obtain rfl:=Option.some.inj h;exact ⟨rfl,rfl⟩) rfl site
  exact (f53_1.b_eq L N (fun d xs=>some xs) d.1 d.2.1.1.1 d.2.1.2.1).trans (Eq.trans (b:=f53_1.b L N some d.1 d.2.1.1.1 d.2.1.2.1) (by kernel_rfl) hy)
 ·cases ha
def Φ53_1 (L N:Nat):Tells:=(addO (Φ54_1 L N) 53 (f53_1.ent L N))
theorem Φ53_1_ok (L N:Nat):TellsOk Tryz.prog (Φ53_1 L N):=addO_ok (Φ54_1_ok L N) (f53_1.ok L N (Φ54_1_ok L N))
def f32_1.s0' {R:Type} (L N:Nat) (k0_r:LLI→Option R) (rec0:LLM→LLI→Option R) (s0:LLM) (s1:LLI):Option R:=
 bif (decide (0≤(wi ((s1.length:Int)-(1:Int))))&&decide ((wi ((s1.length:Int)-(1:Int)))<(s1.length:Int))) then
  (f53_1 L N (listAt s1 [] (wi ((s1.length:Int)-(1:Int))).toNat) s0 (listAt s1 [] (wi ((s1.length:Int)-(1:Int))).toNat)).bind fun y2=>
  (f55 L N y2 (listAt s1 [] (wi ((s1.length:Int)-(1:Int))).toNat)).bind fun y3=>
  bif y3 then
   k0_r s1
  else bif (decide (s1.length+([y2]:LLI).length≤lim)) then
   rec0 s0 (s1++([y2]:LLI))
  else none
 else none
def f32_1.s0 {R:Type} (L N:Nat) (k0_r:LLI→Option R) (rec0:LLM→LLI→Option R) (s0:LLM) (s1:LLI):Option R:=
 f32_1.s0' L N k0_r rec0 s0 s1
def f32_1.l0 {R:Type} (L N:Nat) (k0_r:LLI→Option R):Nat→LLM→LLI→Option R
 |0,_,_=>none
 |n+1,s0,s1=>f32_1.s0 L N k0_r (f32_1.l0 L N k0_r n) s0 s1
def f32_1.T0 (s0:LLM) (s1:LLI):T:=mkT 28 [(3,(.ptr 1003 0)),(5,(.row 1010))]
def f32_1.H0 (s0:LLM) (s1:LLI):H:=[(1003,(.box [(.fn 51 [(.imp (.sl (.sl (.st 0))) s0 0)])])),(1010,(.row 22 (.sl i64) s1))]
def f32_1.T0_r (z4:LLI):T:=mkT 28 [(4,(.row 1010))]
def f32_1.H0_r (z4:LLI):H:=[(1010,(.row 22 (.sl i64) z4))]
def f32_1.p0_r' {R:Type} (L N:Nat) (k:LLI→Option R) (z4:LLI):Option R:=
 k z4
def f32_1.p0_r {R:Type} (L N:Nat) (k:LLI→Option R) (z4:LLI):Option R:=
 f32_1.p0_r' L N k z4
def f32_1.b' {R:Type} (L N:Nat) (k:LLI→Option R) (w0:LLM→LLI→Option R) (x0:Int) (x1:LLM):Option R:=
 bif (decide (0≤x0)&&decide (x0≤(lim:Int))) then
  w0 x1 ([(List.replicate x0.toNat (0:Int))]:LLI)
 else none
def f32_1.b {R:Type} (L N:Nat) (k:LLI→Option R) (x0:Int) (x1:LLM):Option R:=
 f32_1.b' L N k (fun s0 s1=>f32_1.l0 L N (fun z4=>f32_1.p0_r L N k z4) L s0 s1) x0 x1
def f32_1 (L N:Nat) (x0:Int) (x1:LLM):Option (LLI):=f32_1.b L N some x0 x1
def f32_1.ent (L N:Nat):=entDf [(.dat i64),(.fn 51 [(.imp (.sl (.sl (.st 0))) 0)])] (.one (.sl (.sl i64))) fun d=>f32_1 L N d.1 d.2.1.1
noncomputable def E32_1 (L N:Nat):Env:={P:=Tryz.prog,ty:=tyOf,Φ:=(Φ53_1 L N),inl:=inlT,live:=lives,liveX:=livesX,L:=L,dp:=none,prom:=promT,heal:=healT,ren:=renT}
noncomputable def f32_1.c0:Code:=loopAt 0 (codeOf Tryz.f32)
def f32_1.X0_r {R:Type} (κ:KX R):=fun z4=>κ .ret (f32_1.T0_r z4) (f32_1.H0_r z4)
def f32_1.R0 {R:Type} (rec:KT R):=fun s0 s1=>rec (f32_1.T0 s0 s1) (f32_1.H0 s0 s1)
theorem f32_1.s0_eq {R:Type} (L N:Nat) (κ:KX R) (rec:KT R) (s0:LLM) (s1:LLI):
  evRd (E32_1 L N) (evCallI (E32_1 L N) 1 2000) 1000 32 28 0 f32_1.c0 κ rec (f32_1.T0 s0 s1) (f32_1.H0 s0 s1)
  =f32_1.s0 L N (f32_1.X0_r κ) (f32_1.R0 rec) s0 s1:=by kernel_rfl
theorem f32_1.l0_eq {R:Type} (L N:Nat) (κ:KX R):∀(n:Nat) (s0:LLM) (s1:LLI),
  evLp (E32_1 L N) (evCallI (E32_1 L N) 1 2000) 1000 32 28 0 f32_1.c0 κ n (f32_1.T0 s0 s1) (f32_1.H0 s0 s1)
  =f32_1.l0 L N (f32_1.X0_r κ) n s0 s1:=by
 intro n
 induction n with
 |zero=>intros;rfl
 |succ n ih=>
  intro s0 s1
  rw [evLp_succ,f32_1.s0_eq]
  delta f32_1.R0
  simp only [ih]
  rfl
theorem f32_1.p0_r_eq {R:Type} (L N:Nat) (κ:AV→Option R) (z4:LLI):
  (contAt (E32_1 L N) (evCallI (E32_1 L N) 1 2000) 1000 32 28 0 (codeOf Tryz.f32) (finK (E32_1 L N) 1000 Tryz.f32 (finC (.one (.sl (.sl i64))) κ))) .ret (f32_1.T0_r z4) (f32_1.H0_r z4)
  =f32_1.p0_r L N (fun a0=>κ (.tv (.sl (.sl i64)) a0)) z4:=by kernel_rfl
theorem f32_1.b_eq {R:Type} (L N:Nat) (κ:AV→Option R) (x0:Int) (x1:LLM):
  evBody (E32_1 L N) (evCallI (E32_1 L N) 1 2000) 1000 32 Tryz.f32 [(.tv i64 x0),(.fn 51 [(.imp (.sl (.sl (.st 0))) x1 0)])] [] [] (finC (.one (.sl (.sl i64))) κ)
  =f32_1.b L N (fun a0=>κ (.tv (.sl (.sl i64)) a0)) x0 x1:=by
 refine Eq.trans (b:=f32_1.b' L N (fun a0=>κ (.tv (.sl (.sl i64)) a0)) (fun s0 s1=>evLp (E32_1 L N) (evCallI (E32_1 L N) 1 2000) 1000 32 28 0 f32_1.c0 (contAt (E32_1 L N) (evCallI (E32_1 L N) 1 2000) 1000 32 28 0 (codeOf Tryz.f32) (finK (E32_1 L N) 1000 Tryz.f32 (finC (.one (.sl (.sl i64))) κ))) L (f32_1.T0 s0 s1) (f32_1.H0 s0 s1)) x0 x1) (by kernel_rfl) ?_
 unfold f32_1.b
 simp only [f32_1.l0_eq]
 delta f32_1.X0_r
 simp only [f32_1.p0_r_eq]
theorem f32_1.ok (L N:Nat) (hΦ:TellsOk Tryz.prog ((Φ53_1 L N))):EntOkO Tryz.prog 32 (f32_1.ent L N):=entDf_ok (E:=(E32_1 L N)) (dep:=1000) (f:=Tryz.f32) (sound_of hΦ) okP (callI_sound (sound_of hΦ) okP 1 2000) rfl fun d _ hy=>(f32_1.b_eq L N (unR (.one (.sl (.sl i64)))) d.1 d.2.1.1).trans (Eq.trans (b:=f32_1.b L N some d.1 d.2.1.1) (by kernel_rfl) hy)
def Φ32_1 (L N:Nat):Tells:=(addO (Φ53_1 L N) 32 (f32_1.ent L N))
theorem Φ32_1_ok (L N:Nat):TellsOk Tryz.prog (Φ32_1 L N):=addO_ok (Φ53_1_ok L N) (f32_1.ok L N (Φ53_1_ok L N))
def f30.b' {R:Type} (L N:Nat) (k:LLI→Option R) (x0:Graph):Option R:=
 (f32_1 L N (x0.moves.length:Int) x0.moves).bind fun y0=>
 k y0
def f30.b {R:Type} (L N:Nat) (k:LLI→Option R) (x0:Graph):Option R:=
 f30.b' L N k x0
def f30 (L N:Nat) (x0:Graph):Option (LLI):=f30.b L N some x0
def f30.ent (L N:Nat):=entDa [(.st 2)] (.one (.sl (.sl i64))) fun d=>f30 L N d.1
noncomputable def E30 (L N:Nat):Env:={P:=Tryz.prog,ty:=tyOf,Φ:=(Φ32_1 L N),inl:=inlT,live:=lives,liveX:=livesX,L:=L,dp:=none,prom:=promT,heal:=healT,ren:=renT}
theorem f30.b_eq {R:Type} (L N:Nat) (κ:AV→Option R) (x0:Graph):
  evBody (E30 L N) (evCallI (E30 L N) 1 2000) 1000 30 Tryz.f30 [(.tv (.st 2) x0)] [] [] (finC (.one (.sl (.sl i64))) κ)
  =f30.b L N (fun a0=>κ (.tv (.sl (.sl i64)) a0)) x0:=by kernel_rfl
theorem f30.ok (L N:Nat) (hΦ:TellsOk Tryz.prog ((Φ32_1 L N))):EntOk Tryz.prog 30 (f30.ent L N):=entDa_ok (E:=(E30 L N)) (dep:=1000) (f:=Tryz.f30) (sound_of hΦ) okP (callI_sound (sound_of hΦ) okP 1 2000) rfl fun d _ hy=>(f30.b_eq L N (unR (.one (.sl (.sl i64)))) d.1).trans (Eq.trans (b:=f30.b L N some d.1) (by kernel_rfl) hy)
def Φ30 (L N:Nat):Tells:=(addT (Φ32_1 L N) 30 (f30.ent L N))
theorem Φ30_ok (L N:Nat):TellsOk Tryz.prog (Φ30 L N):=addT_ok (Φ32_1_ok L N) (f30.ok L N (Φ32_1_ok L N))
def f21.b' {R:Type} (L N:Nat) (k:LI→Option R) (x0:Graph):Option R:=
 (f30 L N (Graph.mk x0.moves)).bind fun y0=>
 bif (decide (0≤(wi ((y0.length:Int)-(1:Int))))&&decide ((wi ((y0.length:Int)-(1:Int)))<(y0.length:Int))) then
  ((fclone (listAt y0 [] (wi ((y0.length:Int)-(1:Int))).toNat))).bind fun y1=>
  k (listAt y0 [] (wi ((y0.length:Int)-(1:Int))).toNat)
 else none
def f21.b {R:Type} (L N:Nat) (k:LI→Option R) (x0:Graph):Option R:=
 f21.b' L N k x0
def f21 (L N:Nat) (x0:Graph):Option (LI):=f21.b L N some x0
def f21.ent (L N:Nat) (args:List AV) (vw:View) (site:Nat):Ans:=match roD [(.st 2)] vw args with
 |some d=>⟨LI,f21 L N d.1,fun y=>(RN.av site .row (),[(site,some (mkO none 3 i64 y))],[])⟩
 |none=>Ans.no
noncomputable def E21 (L N:Nat):Env:={P:=Tryz.prog,ty:=tyOf,Φ:=(Φ30 L N),inl:=inlT,live:=lives,liveX:=livesX,L:=L,dp:=none,prom:=promT,heal:=healT,ren:=renT}
theorem f21.b_eq {R:Type} (L N:Nat) (κ:RN.Den .row→List Int→Option R) (x0:Graph):
  evBody (E21 L N) (evCallI (E21 L N) 1 2000) 1000 21 Tryz.f21 [(.tv (.st 2) x0)] [] [] (finN .row none 3 i64 κ)
  =f21.b L N (fun a0=>κ () a0) x0:=by kernel_rfl
theorem f21.ok (L N:Nat) (hΦ:TellsOk Tryz.prog ((Φ30 L N))):EntOk Tryz.prog 21 (f21.ent L N):=by
 intro args vw site h
 unfold f21.ent
 split
 ·rename_i d ha
  intro y hy hs
  refine call_ron (y:=y) (dep:=1000) (E:=(E21 L N)) (ts:=[(.st 2)]) (rn:=.row) (q:=none) (el:=3) (ty:=i64) (d1:=()) (xs:=y) (κ:=(fun d xs=>some xs)) (sound_of hΦ) okP (callI_sound (sound_of hΦ) okP 1 2000) (f:=Tryz.f21) rfl hs ha ?_ (fun _ _ h=>by obtain rfl:=Option.some.inj h;exact ⟨rfl,rfl⟩) rfl site
  exact (f21.b_eq L N (fun d xs=>some xs) d.1).trans (Eq.trans (b:=f21.b L N some d.1) (by kernel_rfl) hy)
 ·intro y hy
  cases hy
def Φ21 (L N:Nat):Tells:=(addT (Φ30 L N) 21 (f21.ent L N))
theorem Φ21_ok (L N:Nat):TellsOk Tryz.prog (Φ21 L N):=addT_ok (Φ30_ok L N) (f21.ok L N (Φ30_ok L N))
def f5.b' {R:Type} (L N:Nat) (k:LI→Option R) (x0:Graph):Option R:=
 (f6 L N (Graph.mk x0.moves)).bind fun y0=>
 bif (!y0) then
  k []
 else (f21 L N (Graph.mk x0.moves)).bind fun y1=>
 k y1
def f5.b {R:Type} (L N:Nat) (k:LI→Option R) (x0:Graph):Option R:=
 f5.b' L N k x0
def f5 (L N:Nat) (x0:Graph):Option (LI):=f5.b L N some x0
def f5.ent (L N:Nat) (args:List AV) (vw:View) (site:Nat):Ans:=match roD [(.st 2)] vw args with
 |some d=>⟨LI,f5 L N d.1,fun y=>(RN.av site .row (),[(site,some (mkO none 3 i64 y))],[])⟩
 |none=>Ans.no
noncomputable def E5 (L N:Nat):Env:={P:=Tryz.prog,ty:=tyOf,Φ:=(Φ21 L N),inl:=inlT,live:=lives,liveX:=livesX,L:=L,dp:=none,prom:=promT,heal:=healT,ren:=renT}
theorem f5.b_eq {R:Type} (L N:Nat) (κ:RN.Den .row→List Int→Option R) (x0:Graph):
  evBody (E5 L N) (evCallI (E5 L N) 1 2000) 1000 5 Tryz.f5 [(.tv (.st 2) x0)] [] [] (finN .row none 3 i64 κ)
  =f5.b L N (fun a0=>κ () a0) x0:=by kernel_rfl
theorem f5.ok (L N:Nat) (hΦ:TellsOk Tryz.prog ((Φ21 L N))):EntOk Tryz.prog 5 (f5.ent L N):=by
 intro args vw site h
 unfold f5.ent
 split
 ·rename_i d ha
  intro y hy hs
  refine call_ron (y:=y) (dep:=1000) (E:=(E5 L N)) (ts:=[(.st 2)]) (rn:=.row) (q:=none) (el:=3) (ty:=i64) (d1:=()) (xs:=y) (κ:=(fun d xs=>some xs)) (sound_of hΦ) okP (callI_sound (sound_of hΦ) okP 1 2000) (f:=Tryz.f5) rfl hs ha ?_ (fun _ _ h=>by obtain rfl:=Option.some.inj h;exact ⟨rfl,rfl⟩) rfl site
  exact (f5.b_eq L N (fun d xs=>some xs) d.1).trans (Eq.trans (b:=f5.b L N some d.1) (by kernel_rfl) hy)
 ·intro y hy
  cases hy
def Φ5 (L N:Nat):Tells:=(addT (Φ21 L N) 5 (f5.ent L N))
theorem Φ5_ok (L N:Nat):TellsOk Tryz.prog (Φ5 L N):=addT_ok (Φ21_ok L N) (f5.ok L N (Φ21_ok L N))
def f24.b' {R:Type} (L N:Nat) (k:Bool→Option R) (x0:Int) (x1:Int) (x2:Int):Option R:=
 bif (decide (x0≥x1)) then
  k (decide (x0≤x2))
 else k false
def f24.b {R:Type} (L N:Nat) (k:Bool→Option R) (x0:Int) (x1:Int) (x2:Int):Option R:=
 f24.b' L N k x0 x1 x2
def f24 (L N:Nat) (x0:Int) (x1:Int) (x2:Int):Option (Bool):=f24.b L N some x0 x1 x2
def f24.ent (L N:Nat):=entRo [i64,i64,i64] (.one .bool) fun d=>f24 L N d.1 d.2.1 d.2.2.1
noncomputable def E24 (L N:Nat):Env:={P:=Tryz.prog,ty:=tyOf,Φ:=(Φ5 L N),inl:=inlT,live:=lives,liveX:=livesX,L:=L,dp:=none,prom:=promT,heal:=healT,ren:=renT}
theorem f24.b_eq {R:Type} (L N:Nat) (κ:AV→Option R) (x0:Int) (x1:Int) (x2:Int):
  evBody (E24 L N) (evCallI (E24 L N) 1 2000) 1000 24 Tryz.f24 [(.tv i64 x0),(.tv i64 x1),(.tv i64 x2)] [] [] (finC (.one .bool) κ)
  =f24.b L N (fun a0=>κ (.tv .bool a0)) x0 x1 x2:=by kernel_rfl
theorem f24.ok (L N:Nat) (hΦ:TellsOk Tryz.prog ((Φ5 L N))):EntOk Tryz.prog 24 (f24.ent L N):=entRo_ok (E:=(E24 L N)) (dep:=1000) (f:=Tryz.f24) (sound_of hΦ) okP (callI_sound (sound_of hΦ) okP 1 2000) rfl rfl fun d _ hy=>(f24.b_eq L N (unR (.one .bool)) d.1 d.2.1 d.2.2.1).trans (Eq.trans (b:=f24.b L N some d.1 d.2.1 d.2.2.1) (by kernel_rfl) hy)
def Φ24 (L N:Nat):Tells:=(addT (Φ5 L N) 24 (f24.ent L N))
theorem Φ24_ok (L N:Nat):TellsOk Tryz.prog (Φ24 L N):=addT_ok (Φ5_ok L N) (f24.ok L N (Φ5_ok L N))
def f25.b' {R:Type} (L N:Nat) (k:Bool→Option R) (x0:Int):Option R:=
 (f24 L N x0 (-4:Int) (4:Int)).bind fun y0=>
 k y0
def f25.b {R:Type} (L N:Nat) (k:Bool→Option R) (x0:Int):Option R:=
 f25.b' L N k x0
def f25 (L N:Nat) (x0:Int):Option (Bool):=f25.b L N some x0
def f25.ent (L N:Nat):=entRo [i64] (.one .bool) fun d=>f25 L N d.1
noncomputable def E25 (L N:Nat):Env:={P:=Tryz.prog,ty:=tyOf,Φ:=(Φ24 L N),inl:=inlT,live:=lives,liveX:=livesX,L:=L,dp:=none,prom:=promT,heal:=healT,ren:=renT}
theorem f25.b_eq {R:Type} (L N:Nat) (κ:AV→Option R) (x0:Int):
  evBody (E25 L N) (evCallI (E25 L N) 1 2000) 1000 25 Tryz.f25 [(.tv i64 x0)] [] [] (finC (.one .bool) κ)
  =f25.b L N (fun a0=>κ (.tv .bool a0)) x0:=by kernel_rfl
theorem f25.ok (L N:Nat) (hΦ:TellsOk Tryz.prog ((Φ24 L N))):EntOk Tryz.prog 25 (f25.ent L N):=entRo_ok (E:=(E25 L N)) (dep:=1000) (f:=Tryz.f25) (sound_of hΦ) okP (callI_sound (sound_of hΦ) okP 1 2000) rfl rfl fun d _ hy=>(f25.b_eq L N (unR (.one .bool)) d.1).trans (Eq.trans (b:=f25.b L N some d.1) (by kernel_rfl) hy)
def Φ25 (L N:Nat):Tells:=(addT (Φ24 L N) 25 (f25.ent L N))
theorem Φ25_ok (L N:Nat):TellsOk Tryz.prog (Φ25 L N):=addT_ok (Φ24_ok L N) (f25.ok L N (Φ24_ok L N))
def f7.s1' {R:Type} (L N:Nat) (k1_e2:Int→LLM→Option R) (k1_r:Bool→Int→LLM→Option R) (rec1:Int→Int→LLM→Option R) (s3:Int) (s4:Int) (s5:LLM):Option R:=
 bif (decide (0≤s3)&&decide (s3<(s5.length:Int))) then
  bif (decide (s4<((listAt s5 [] s3.toNat).length:Int))) then
   bif (decide (0≤s3)&&decide (s3<(s5.length:Int))) then
    bif (decide (0≤s4)&&decide (s4<((listAt s5 [] s3.toNat).length:Int))) then
     (f25 L N ((listAt (listAt s5 [] s3.toNat) (Ty.dflt (.st 0)) s4.toNat).act)).bind fun y8=>
     bif (!y8) then
      k1_r false s3 s5
     else (f24 L N ((listAt (listAt s5 [] s3.toNat) (Ty.dflt (.st 0)) s4.toNat).to) (0:Int) (wi ((s5.length:Int)-(1:Int)))).bind fun y9=>
     bif (!y9) then
      k1_r false s3 s5
     else bif (decide (s4>(0:Int))) then
      bif (decide (0≤s3)&&decide (s3<(s5.length:Int))) then
       bif (decide (0≤(wi (s4-(1:Int))))&&decide ((wi (s4-(1:Int)))<((listAt s5 [] s3.toNat).length:Int))) then
        (f26 L N (listAt (listAt s5 [] s3.toNat) (Ty.dflt (.st 0)) (wi (s4-(1:Int))).toNat) (Move.mk ((listAt (listAt s5 [] s3.toNat) (Ty.dflt (.st 0)) s4.toNat).act) ((listAt (listAt s5 [] s3.toNat) (Ty.dflt (.st 0)) s4.toNat).to))).bind fun y10=>
        bif (!y10) then
         k1_r false s3 s5
        else rec1 s3 (wi (s4+(1:Int))) s5
       else none
      else none
     else rec1 s3 (wi (s4+(1:Int))) s5
    else none
   else none
  else k1_e2 s3 s5
 else none
def f7.s1 {R:Type} (L N:Nat) (k1_e2:Int→LLM→Option R) (k1_r:Bool→Int→LLM→Option R) (rec1:Int→Int→LLM→Option R) (s3:Int) (s4:Int) (s5:LLM):Option R:=
 f7.s1' L N k1_e2 k1_r rec1 s3 s4 s5
def f7.l1 {R:Type} (L N:Nat) (k1_e2:Int→LLM→Option R) (k1_r:Bool→Int→LLM→Option R):Nat→Int→Int→LLM→Option R
 |0,_,_,_=>none
 |n+1,s3,s4,s5=>f7.s1 L N k1_e2 k1_r (f7.l1 L N k1_e2 k1_r n) s3 s4 s5
def f7.T1 (s3:Int) (s4:Int) (s5:LLM):T:=mkT 68 [(1,(.ptr 1001 0)),(3,(.tv i64 s3)),(4,(.tv i64 s4))]
def f7.H1 (s3:Int) (s4:Int) (s5:LLM):H:=[(1001,(.box [(.tv (.sl (.sl (.st 0))) s5)]))]
def f7.T1_e2 (z6:Int) (z7:LLM):T:=mkT 68 [(1,(.ptr 1001 0)),(3,(.tv i64 z6))]
def f7.H1_e2 (z6:Int) (z7:LLM):H:=[(1001,(.box [(.tv (.sl (.sl (.st 0))) z7)]))]
def f7.T1_r (z15:Bool) (z16:Int) (z17:LLM):T:=mkT 68 [(1,(.ptr 1001 0)),(2,(.tv .bool z15)),(3,(.tv i64 z16))]
def f7.H1_r (z15:Bool) (z16:Int) (z17:LLM):H:=[(1001,(.box [(.tv (.sl (.sl (.st 0))) z17)]))]
def f7.p1_e2' {R:Type} (L N:Nat) (k0_e0:Option R) (k0_r:Bool→Option R) (rec0:Int→LLM→Option R) (z6:Int) (z7:LLM):Option R:=
 rec0 (wi (z6+(1:Int))) z7
def f7.p1_e2 {R:Type} (L N:Nat) (k0_e0:Option R) (k0_r:Bool→Option R) (rec0:Int→LLM→Option R) (z6:Int) (z7:LLM):Option R:=
 f7.p1_e2' L N k0_e0 k0_r rec0 z6 z7
def f7.p1_r' {R:Type} (L N:Nat) (k0_e0:Option R) (k0_r:Bool→Option R) (rec0:Int→LLM→Option R) (z15:Bool) (z16:Int) (z17:LLM):Option R:=
 k0_r z15
def f7.p1_r {R:Type} (L N:Nat) (k0_e0:Option R) (k0_r:Bool→Option R) (rec0:Int→LLM→Option R) (z15:Bool) (z16:Int) (z17:LLM):Option R:=
 f7.p1_r' L N k0_e0 k0_r rec0 z15 z16 z17
def f7.s0' {R:Type} (L N:Nat) (k0_e0:Option R) (k0_r:Bool→Option R) (rec0:Int→LLM→Option R) (w1:Int→Int→LLM→Option R) (s1:Int) (s2:LLM):Option R:=
 bif (decide (s1<(s2.length:Int))) then
  w1 s1 (0:Int) s2
 else k0_e0
def f7.s0 {R:Type} (L N:Nat) (k0_e0:Option R) (k0_r:Bool→Option R) (rec0:Int→LLM→Option R) (s1:Int) (s2:LLM):Option R:=
 f7.s0' L N k0_e0 k0_r rec0 (fun s3 s4 s5=>f7.l1 L N (fun z6 z7=>f7.p1_e2 L N k0_e0 k0_r rec0 z6 z7) (fun z15 z16 z17=>f7.p1_r L N k0_e0 k0_r rec0 z15 z16 z17) L s3 s4 s5) s1 s2
def f7.l0 {R:Type} (L N:Nat) (k0_e0:Option R) (k0_r:Bool→Option R):Nat→Int→LLM→Option R
 |0,_,_=>none
 |n+1,s1,s2=>f7.s0 L N k0_e0 k0_r (f7.l0 L N k0_e0 k0_r n) s1 s2
def f7.T0 (s1:Int) (s2:LLM):T:=mkT 68 [(1,(.ptr 1001 0)),(3,(.tv i64 s1))]
def f7.H0 (s1:Int) (s2:LLM):H:=[(1001,(.box [(.tv (.sl (.sl (.st 0))) s2)]))]
def f7.T0_e0:T:=mkT 68 []
def f7.H0_e0:H:=[]
def f7.T0_r (z21:Bool):T:=mkT 68 [(2,(.tv .bool z21))]
def f7.H0_r (z21:Bool):H:=[]
def f7.p0_e0' {R:Type} (L N:Nat) (k:Bool→Option R):Option R:=
 k true
def f7.p0_e0 {R:Type} (L N:Nat) (k:Bool→Option R):Option R:=
 f7.p0_e0' L N k
def f7.p0_r' {R:Type} (L N:Nat) (k:Bool→Option R) (z21:Bool):Option R:=
 k z21
def f7.p0_r {R:Type} (L N:Nat) (k:Bool→Option R) (z21:Bool):Option R:=
 f7.p0_r' L N k z21
def f7.b' {R:Type} (L N:Nat) (k:Bool→Option R) (w0:Int→LLM→Option R) (x0:Graph):Option R:=
 (f24 L N (x0.moves.length:Int) (1:Int) (60:Int)).bind fun y0=>
 bif (!y0) then
  k false
 else w0 (0:Int) x0.moves
def f7.b {R:Type} (L N:Nat) (k:Bool→Option R) (x0:Graph):Option R:=
 f7.b' L N k (fun s1 s2=>f7.l0 L N (f7.p0_e0 L N k) (fun z21=>f7.p0_r L N k z21) L s1 s2) x0
def f7 (L N:Nat) (x0:Graph):Option (Bool):=f7.b L N some x0
def f7.ent (L N:Nat):=entRo [(.st 2)] (.one .bool) fun d=>f7 L N d.1
noncomputable def E7 (L N:Nat):Env:={P:=Tryz.prog,ty:=tyOf,Φ:=(Φ25 L N),inl:=inlT,live:=lives,liveX:=livesX,L:=L,dp:=none,prom:=promT,heal:=healT,ren:=renT}
noncomputable def f7.c0:Code:=loopAt 0 (codeOf Tryz.f7)
noncomputable def f7.c1:Code:=loopAt 2 f7.c0
def f7.X1_e2 {R:Type} (κ:KX R):=fun z6 z7=>κ (.exit 2) (f7.T1_e2 z6 z7) (f7.H1_e2 z6 z7)
def f7.X1_r {R:Type} (κ:KX R):=fun z15 z16 z17=>κ .ret (f7.T1_r z15 z16 z17) (f7.H1_r z15 z16 z17)
def f7.R1 {R:Type} (rec:KT R):=fun s3 s4 s5=>rec (f7.T1 s3 s4 s5) (f7.H1 s3 s4 s5)
theorem f7.s1_eq {R:Type} (L N:Nat) (κ:KX R) (rec:KT R) (s3:Int) (s4:Int) (s5:LLM):
  evRd (E7 L N) (evCallI (E7 L N) 1 2000) 1000 7 68 2 f7.c1 κ rec (f7.T1 s3 s4 s5) (f7.H1 s3 s4 s5)
  =f7.s1 L N (f7.X1_e2 κ) (f7.X1_r κ) (f7.R1 rec) s3 s4 s5:=by kernel_rfl
theorem f7.l1_eq {R:Type} (L N:Nat) (κ:KX R):∀(n:Nat) (s3:Int) (s4:Int) (s5:LLM),
  evLp (E7 L N) (evCallI (E7 L N) 1 2000) 1000 7 68 2 f7.c1 κ n (f7.T1 s3 s4 s5) (f7.H1 s3 s4 s5)
  =f7.l1 L N (f7.X1_e2 κ) (f7.X1_r κ) n s3 s4 s5:=by
 intro n
 induction n with
 |zero=>intros;rfl
 |succ n ih=>
  intro s3 s4 s5
  rw [evLp_succ,f7.s1_eq]
  delta f7.R1
  simp only [ih]
  rfl
def f7.X0_e0 {R:Type} (κ:KX R):=κ (.exit 0) f7.T0_e0 f7.H0_e0
def f7.X0_r {R:Type} (κ:KX R):=fun z21=>κ .ret (f7.T0_r z21) (f7.H0_r z21)
def f7.R0 {R:Type} (rec:KT R):=fun s1 s2=>rec (f7.T0 s1 s2) (f7.H0 s1 s2)
theorem f7.p1_e2_eq {R:Type} (L N:Nat) (κ:KX R) (rec:KT R) (z6:Int) (z7:LLM):
  (contAt (E7 L N) (evCallI (E7 L N) 1 2000) 1000 7 68 2 f7.c0 (rdK (E7 L N) 1000 7 68 0 κ rec)) (.exit 2) (f7.T1_e2 z6 z7) (f7.H1_e2 z6 z7)
  =f7.p1_e2 L N (f7.X0_e0 κ) (f7.X0_r κ) (f7.R0 rec) z6 z7:=by kernel_rfl
theorem f7.p1_r_eq {R:Type} (L N:Nat) (κ:KX R) (rec:KT R) (z15:Bool) (z16:Int) (z17:LLM):
  (contAt (E7 L N) (evCallI (E7 L N) 1 2000) 1000 7 68 2 f7.c0 (rdK (E7 L N) 1000 7 68 0 κ rec)) .ret (f7.T1_r z15 z16 z17) (f7.H1_r z15 z16 z17)
  =f7.p1_r L N (f7.X0_e0 κ) (f7.X0_r κ) (f7.R0 rec) z15 z16 z17:=by kernel_rfl
theorem f7.s0_eq {R:Type} (L N:Nat) (κ:KX R) (rec:KT R) (s1:Int) (s2:LLM):
  evRd (E7 L N) (evCallI (E7 L N) 1 2000) 1000 7 68 0 f7.c0 κ rec (f7.T0 s1 s2) (f7.H0 s1 s2)
  =f7.s0 L N (f7.X0_e0 κ) (f7.X0_r κ) (f7.R0 rec) s1 s2:=by
 refine Eq.trans (b:=f7.s0' L N (f7.X0_e0 κ) (f7.X0_r κ) (f7.R0 rec) (fun s3 s4 s5=>evLp (E7 L N) (evCallI (E7 L N) 1 2000) 1000 7 68 2 f7.c1 (contAt (E7 L N) (evCallI (E7 L N) 1 2000) 1000 7 68 2 f7.c0 (rdK (E7 L N) 1000 7 68 0 κ rec)) L (f7.T1 s3 s4 s5) (f7.H1 s3 s4 s5)) s1 s2) (by kernel_rfl) ?_
 unfold f7.s0
 simp only [f7.l1_eq]
 delta f7.X1_e2 f7.X1_r
 simp only [f7.p1_e2_eq,f7.p1_r_eq]
theorem f7.l0_eq {R:Type} (L N:Nat) (κ:KX R):∀(n:Nat) (s1:Int) (s2:LLM),
  evLp (E7 L N) (evCallI (E7 L N) 1 2000) 1000 7 68 0 f7.c0 κ n (f7.T0 s1 s2) (f7.H0 s1 s2)
  =f7.l0 L N (f7.X0_e0 κ) (f7.X0_r κ) n s1 s2:=by
 intro n
 induction n with
 |zero=>intros;rfl
 |succ n ih=>
  intro s1 s2
  rw [evLp_succ,f7.s0_eq]
  delta f7.R0
  simp only [ih]
  rfl
theorem f7.p0_e0_eq {R:Type} (L N:Nat) (κ:AV→Option R):
  (contAt (E7 L N) (evCallI (E7 L N) 1 2000) 1000 7 68 0 (codeOf Tryz.f7) (finK (E7 L N) 1000 Tryz.f7 (finC (.one .bool) κ))) (.exit 0) f7.T0_e0 f7.H0_e0
  =f7.p0_e0 L N (fun a0=>κ (.tv .bool a0)):=by kernel_rfl
theorem f7.p0_r_eq {R:Type} (L N:Nat) (κ:AV→Option R) (z21:Bool):
  (contAt (E7 L N) (evCallI (E7 L N) 1 2000) 1000 7 68 0 (codeOf Tryz.f7) (finK (E7 L N) 1000 Tryz.f7 (finC (.one .bool) κ))) .ret (f7.T0_r z21) (f7.H0_r z21)
  =f7.p0_r L N (fun a0=>κ (.tv .bool a0)) z21:=by kernel_rfl
theorem f7.b_eq {R:Type} (L N:Nat) (κ:AV→Option R) (x0:Graph):
  evBody (E7 L N) (evCallI (E7 L N) 1 2000) 1000 7 Tryz.f7 [(.tv (.st 2) x0)] [] [] (finC (.one .bool) κ)
  =f7.b L N (fun a0=>κ (.tv .bool a0)) x0:=by
 refine Eq.trans (b:=f7.b' L N (fun a0=>κ (.tv .bool a0)) (fun s1 s2=>evLp (E7 L N) (evCallI (E7 L N) 1 2000) 1000 7 68 0 f7.c0 (contAt (E7 L N) (evCallI (E7 L N) 1 2000) 1000 7 68 0 (codeOf Tryz.f7) (finK (E7 L N) 1000 Tryz.f7 (finC (.one .bool) κ))) L (f7.T0 s1 s2) (f7.H0 s1 s2)) x0) (by kernel_rfl) ?_
 unfold f7.b
 simp only [f7.l0_eq]
 delta f7.X0_e0 f7.X0_r
 simp only [f7.p0_e0_eq,f7.p0_r_eq]
theorem f7.ok (L N:Nat) (hΦ:TellsOk Tryz.prog ((Φ25 L N))):EntOk Tryz.prog 7 (f7.ent L N):=entRo_ok (E:=(E7 L N)) (dep:=1000) (f:=Tryz.f7) (sound_of hΦ) okP (callI_sound (sound_of hΦ) okP 1 2000) rfl rfl fun d _ hy=>(f7.b_eq L N (unR (.one .bool)) d.1).trans (Eq.trans (b:=f7.b L N some d.1) (by kernel_rfl) hy)
def Φ7 (L N:Nat):Tells:=(addT (Φ25 L N) 7 (f7.ent L N))
theorem Φ7_ok (L N:Nat):TellsOk Tryz.prog (Φ7 L N):=addT_ok (Φ25_ok L N) (f7.ok L N (Φ25_ok L N))
def f8.s0' {R:Type} (L N:Nat) (k0_e0:Option R) (k0_r:Bool→Option R) (rec0:LI→LI→Int→Option R) (s0:LI) (s1:LI) (s2:Int):Option R:=
 bif (decide (s2<(s0.length:Int))) then
  bif (decide (0≤s2)&&decide (s2<(s0.length:Int))) then
   bif (decide (0≤s2)&&decide (s2<(s1.length:Int))) then
    bif ((listAt s0 (0:Int) s2.toNat) !=(listAt s1 (0:Int) s2.toNat)) then
     k0_r false
    else rec0 s0 s1 (wi (s2+(1:Int)))
   else none
  else none
 else k0_e0
def f8.s0 {R:Type} (L N:Nat) (k0_e0:Option R) (k0_r:Bool→Option R) (rec0:LI→LI→Int→Option R) (s0:LI) (s1:LI) (s2:Int):Option R:=
 f8.s0' L N k0_e0 k0_r rec0 s0 s1 s2
def f8.l0 {R:Type} (L N:Nat) (k0_e0:Option R) (k0_r:Bool→Option R):Nat→LI→LI→Int→Option R
 |0,_,_,_=>none
 |n+1,s0,s1,s2=>f8.s0 L N k0_e0 k0_r (f8.l0 L N k0_e0 k0_r n) s0 s1 s2
def f8.T0 (s0:LI) (s1:LI) (s2:Int):T:=mkT 26 [(0,(.tv (.sl i64) s0)),(1,(.tv (.sl i64) s1)),(5,(.tv i64 s2))]
def f8.H0 (s0:LI) (s1:LI) (s2:Int):H:=[]
def f8.T0_e0:T:=mkT 26 []
def f8.H0_e0:H:=[]
def f8.T0_r (z3:Bool):T:=mkT 26 [(4,(.tv .bool z3))]
def f8.H0_r (z3:Bool):H:=[]
def f8.p0_e0' {R:Type} (L N:Nat) (k:Bool→Option R):Option R:=
 k true
def f8.p0_e0 {R:Type} (L N:Nat) (k:Bool→Option R):Option R:=
 f8.p0_e0' L N k
def f8.p0_r' {R:Type} (L N:Nat) (k:Bool→Option R) (z3:Bool):Option R:=
 k z3
def f8.p0_r {R:Type} (L N:Nat) (k:Bool→Option R) (z3:Bool):Option R:=
 f8.p0_r' L N k z3
def f8.b' {R:Type} (L N:Nat) (k:Bool→Option R) (w0:LI→LI→Int→Option R) (x0:LI) (x1:LI):Option R:=
 bif ((x0.length:Int) !=(x1.length:Int)) then
  k false
 else w0 x0 x1 (0:Int)
def f8.b {R:Type} (L N:Nat) (k:Bool→Option R) (x0:LI) (x1:LI):Option R:=
 f8.b' L N k (fun s0 s1 s2=>f8.l0 L N (f8.p0_e0 L N k) (fun z3=>f8.p0_r L N k z3) L s0 s1 s2) x0 x1
def f8 (L N:Nat) (x0:LI) (x1:LI):Option (Bool):=f8.b L N some x0 x1
def f8.ent (L N:Nat):=entRo [(.sl i64),(.sl i64)] (.one .bool) fun d=>f8 L N d.1 d.2.1
noncomputable def E8 (L N:Nat):Env:={P:=Tryz.prog,ty:=tyOf,Φ:=(Φ7 L N),inl:=inlT,live:=lives,liveX:=livesX,L:=L,dp:=none,prom:=promT,heal:=healT,ren:=renT}
noncomputable def f8.c0:Code:=loopAt 0 (codeOf Tryz.f8)
def f8.X0_e0 {R:Type} (κ:KX R):=κ (.exit 0) f8.T0_e0 f8.H0_e0
def f8.X0_r {R:Type} (κ:KX R):=fun z3=>κ .ret (f8.T0_r z3) (f8.H0_r z3)
def f8.R0 {R:Type} (rec:KT R):=fun s0 s1 s2=>rec (f8.T0 s0 s1 s2) (f8.H0 s0 s1 s2)
theorem f8.s0_eq {R:Type} (L N:Nat) (κ:KX R) (rec:KT R) (s0:LI) (s1:LI) (s2:Int):
  evRd (E8 L N) (evCallI (E8 L N) 1 2000) 1000 8 26 0 f8.c0 κ rec (f8.T0 s0 s1 s2) (f8.H0 s0 s1 s2)
  =f8.s0 L N (f8.X0_e0 κ) (f8.X0_r κ) (f8.R0 rec) s0 s1 s2:=by kernel_rfl
theorem f8.l0_eq {R:Type} (L N:Nat) (κ:KX R):∀(n:Nat) (s0:LI) (s1:LI) (s2:Int),
  evLp (E8 L N) (evCallI (E8 L N) 1 2000) 1000 8 26 0 f8.c0 κ n (f8.T0 s0 s1 s2) (f8.H0 s0 s1 s2)
  =f8.l0 L N (f8.X0_e0 κ) (f8.X0_r κ) n s0 s1 s2:=by
 intro n
 induction n with
 |zero=>intros;rfl
 |succ n ih=>
  intro s0 s1 s2
  rw [evLp_succ,f8.s0_eq]
  delta f8.R0
  simp only [ih]
  rfl
theorem f8.p0_e0_eq {R:Type} (L N:Nat) (κ:AV→Option R):
  (contAt (E8 L N) (evCallI (E8 L N) 1 2000) 1000 8 26 0 (codeOf Tryz.f8) (finK (E8 L N) 1000 Tryz.f8 (finC (.one .bool) κ))) (.exit 0) f8.T0_e0 f8.H0_e0
  =f8.p0_e0 L N (fun a0=>κ (.tv .bool a0)):=by kernel_rfl
theorem f8.p0_r_eq {R:Type} (L N:Nat) (κ:AV→Option R) (z3:Bool):
  (contAt (E8 L N) (evCallI (E8 L N) 1 2000) 1000 8 26 0 (codeOf Tryz.f8) (finK (E8 L N) 1000 Tryz.f8 (finC (.one .bool) κ))) .ret (f8.T0_r z3) (f8.H0_r z3)
  =f8.p0_r L N (fun a0=>κ (.tv .bool a0)) z3:=by kernel_rfl
theorem f8.b_eq {R:Type} (L N:Nat) (κ:AV→Option R) (x0:LI) (x1:LI):
  evBody (E8 L N) (evCallI (E8 L N) 1 2000) 1000 8 Tryz.f8 [(.tv (.sl i64) x0),(.tv (.sl i64) x1)] [] [] (finC (.one .bool) κ)
  =f8.b L N (fun a0=>κ (.tv .bool a0)) x0 x1:=by
 refine Eq.trans (b:=f8.b' L N (fun a0=>κ (.tv .bool a0)) (fun s0 s1 s2=>evLp (E8 L N) (evCallI (E8 L N) 1 2000) 1000 8 26 0 f8.c0 (contAt (E8 L N) (evCallI (E8 L N) 1 2000) 1000 8 26 0 (codeOf Tryz.f8) (finK (E8 L N) 1000 Tryz.f8 (finC (.one .bool) κ))) L (f8.T0 s0 s1 s2) (f8.H0 s0 s1 s2)) x0 x1) (by kernel_rfl) ?_
 unfold f8.b
 simp only [f8.l0_eq]
 delta f8.X0_e0 f8.X0_r
 simp only [f8.p0_e0_eq,f8.p0_r_eq]
theorem f8.ok (L N:Nat) (hΦ:TellsOk Tryz.prog ((Φ7 L N))):EntOk Tryz.prog 8 (f8.ent L N):=entRo_ok (E:=(E8 L N)) (dep:=1000) (f:=Tryz.f8) (sound_of hΦ) okP (callI_sound (sound_of hΦ) okP 1 2000) rfl rfl fun d _ hy=>(f8.b_eq L N (unR (.one .bool)) d.1 d.2.1).trans (Eq.trans (b:=f8.b L N some d.1 d.2.1) (by kernel_rfl) hy)
def Φ8 (L N:Nat):Tells:=(addT (Φ7 L N) 8 (f8.ent L N))
theorem Φ8_ok (L N:Nat):TellsOk Tryz.prog (Φ8 L N):=addT_ok (Φ7_ok L N) (f8.ok L N (Φ7_ok L N))
def f93.s0' {R:Type} (L N:Nat) (k0_e0:Option R) (k0_r:Bool→Option R) (rec0:Int→Int→LI→Int→Int→LLM→Option R) (s0:Int) (s1:Int) (s2:LI) (s3:Int) (s4:Int) (s5:LLM):Option R:=
 bif (decide (0≤s0)&&decide (s0<(s5.length:Int))) then
  bif (decide (s4<((listAt s5 [] s0.toNat).length:Int))) then
   bif (decide (0≤s0)&&decide (s0<(s5.length:Int))) then
    bif (decide (0≤s4)&&decide (s4<((listAt s5 [] s0.toNat).length:Int))) then
     bif ((listAt (listAt s5 [] s0.toNat) (Ty.dflt (.st 0)) s4.toNat).act==s1) then
      bif (decide (0≤(listAt (listAt s5 [] s0.toNat) (Ty.dflt (.st 0)) s4.toNat).to)&&decide ((listAt (listAt s5 [] s0.toNat) (Ty.dflt (.st 0)) s4.toNat).to<(s2.length:Int))) then
       bif ((listAt s2 (0:Int) ((listAt (listAt s5 [] s0.toNat) (Ty.dflt (.st 0)) s4.toNat).to).toNat)==s3) then
        k0_r true
       else rec0 s0 s1 s2 s3 (wi (s4+(1:Int))) s5
      else none
     else rec0 s0 s1 s2 s3 (wi (s4+(1:Int))) s5
    else none
   else none
  else k0_e0
 else none
def f93.s0 {R:Type} (L N:Nat) (k0_e0:Option R) (k0_r:Bool→Option R) (rec0:Int→Int→LI→Int→Int→LLM→Option R) (s0:Int) (s1:Int) (s2:LI) (s3:Int) (s4:Int) (s5:LLM):Option R:=
 f93.s0' L N k0_e0 k0_r rec0 s0 s1 s2 s3 s4 s5
def f93.l0 {R:Type} (L N:Nat) (k0_e0:Option R) (k0_r:Bool→Option R):Nat→Int→Int→LI→Int→Int→LLM→Option R
 |0,_,_,_,_,_,_=>none
 |n+1,s0,s1,s2,s3,s4,s5=>f93.s0 L N k0_e0 k0_r (f93.l0 L N k0_e0 k0_r n) s0 s1 s2 s3 s4 s5
def f93.T0 (s0:Int) (s1:Int) (s2:LI) (s3:Int) (s4:Int) (s5:LLM):T:=mkT 44 [(1,(.tv i64 s0)),(2,(.tv i64 s1)),(3,(.tv (.sl i64) s2)),(4,(.tv i64 s3)),(5,(.ptr 1005 0)),(11,(.tv i64 s4))]
def f93.H0 (s0:Int) (s1:Int) (s2:LI) (s3:Int) (s4:Int) (s5:LLM):H:=[(1005,(.box [(.tv (.sl (.sl (.st 0))) s5)]))]
def f93.T0_e0:T:=mkT 44 []
def f93.H0_e0:H:=[]
def f93.T0_r (z13:Bool):T:=mkT 44 [(10,(.tv .bool z13))]
def f93.H0_r (z13:Bool):H:=[]
def f93.p0_e0' {R:Type} (L N:Nat) (k:Bool→Option R):Option R:=
 k false
def f93.p0_e0 {R:Type} (L N:Nat) (k:Bool→Option R):Option R:=
 f93.p0_e0' L N k
def f93.p0_r' {R:Type} (L N:Nat) (k:Bool→Option R) (z13:Bool):Option R:=
 k z13
def f93.p0_r {R:Type} (L N:Nat) (k:Bool→Option R) (z13:Bool):Option R:=
 f93.p0_r' L N k z13
def f93.b' {R:Type} (L N:Nat) (k:Bool→Option R) (w0:Int→Int→LI→Int→Int→LLM→Option R) (x0:Graph) (x1:Int) (x2:Int) (x3:LI) (x4:Int):Option R:=
 w0 x1 x2 x3 x4 (0:Int) x0.moves
def f93.b {R:Type} (L N:Nat) (k:Bool→Option R) (x0:Graph) (x1:Int) (x2:Int) (x3:LI) (x4:Int):Option R:=
 f93.b' L N k (fun s0 s1 s2 s3 s4 s5=>f93.l0 L N (f93.p0_e0 L N k) (fun z13=>f93.p0_r L N k z13) L s0 s1 s2 s3 s4 s5) x0 x1 x2 x3 x4
def f93 (L N:Nat) (x0:Graph) (x1:Int) (x2:Int) (x3:LI) (x4:Int):Option (Bool):=f93.b L N some x0 x1 x2 x3 x4
def f93.ent (L N:Nat):=entRo [(.st 2),i64,i64,(.sl i64),i64] (.one .bool) fun d=>f93 L N d.1 d.2.1 d.2.2.1 d.2.2.2.1 d.2.2.2.2.1
noncomputable def E93 (L N:Nat):Env:={P:=Tryz.prog,ty:=tyOf,Φ:=(Φ8 L N),inl:=inlT,live:=lives,liveX:=livesX,L:=L,dp:=none,prom:=promT,heal:=healT,ren:=renT}
noncomputable def f93.c0:Code:=loopAt 0 (codeOf Tryz.f93)
def f93.X0_e0 {R:Type} (κ:KX R):=κ (.exit 0) f93.T0_e0 f93.H0_e0
def f93.X0_r {R:Type} (κ:KX R):=fun z13=>κ .ret (f93.T0_r z13) (f93.H0_r z13)
def f93.R0 {R:Type} (rec:KT R):=fun s0 s1 s2 s3 s4 s5=>rec (f93.T0 s0 s1 s2 s3 s4 s5) (f93.H0 s0 s1 s2 s3 s4 s5)
theorem f93.s0_eq {R:Type} (L N:Nat) (κ:KX R) (rec:KT R) (s0:Int) (s1:Int) (s2:LI) (s3:Int) (s4:Int) (s5:LLM):
  evRd (E93 L N) (evCallI (E93 L N) 1 2000) 1000 93 44 0 f93.c0 κ rec (f93.T0 s0 s1 s2 s3 s4 s5) (f93.H0 s0 s1 s2 s3 s4 s5)
  =f93.s0 L N (f93.X0_e0 κ) (f93.X0_r κ) (f93.R0 rec) s0 s1 s2 s3 s4 s5:=by kernel_rfl
theorem f93.l0_eq {R:Type} (L N:Nat) (κ:KX R):∀(n:Nat) (s0:Int) (s1:Int) (s2:LI) (s3:Int) (s4:Int) (s5:LLM),
  evLp (E93 L N) (evCallI (E93 L N) 1 2000) 1000 93 44 0 f93.c0 κ n (f93.T0 s0 s1 s2 s3 s4 s5) (f93.H0 s0 s1 s2 s3 s4 s5)
  =f93.l0 L N (f93.X0_e0 κ) (f93.X0_r κ) n s0 s1 s2 s3 s4 s5:=by
 intro n
 induction n with
 |zero=>intros;rfl
 |succ n ih=>
  intro s0 s1 s2 s3 s4 s5
  rw [evLp_succ,f93.s0_eq]
  delta f93.R0
  simp only [ih]
  rfl
theorem f93.p0_e0_eq {R:Type} (L N:Nat) (κ:AV→Option R):
  (contAt (E93 L N) (evCallI (E93 L N) 1 2000) 1000 93 44 0 (codeOf Tryz.f93) (finK (E93 L N) 1000 Tryz.f93 (finC (.one .bool) κ))) (.exit 0) f93.T0_e0 f93.H0_e0
  =f93.p0_e0 L N (fun a0=>κ (.tv .bool a0)):=by kernel_rfl
theorem f93.p0_r_eq {R:Type} (L N:Nat) (κ:AV→Option R) (z13:Bool):
  (contAt (E93 L N) (evCallI (E93 L N) 1 2000) 1000 93 44 0 (codeOf Tryz.f93) (finK (E93 L N) 1000 Tryz.f93 (finC (.one .bool) κ))) .ret (f93.T0_r z13) (f93.H0_r z13)
  =f93.p0_r L N (fun a0=>κ (.tv .bool a0)) z13:=by kernel_rfl
theorem f93.b_eq {R:Type} (L N:Nat) (κ:AV→Option R) (x0:Graph) (x1:Int) (x2:Int) (x3:LI) (x4:Int):
  evBody (E93 L N) (evCallI (E93 L N) 1 2000) 1000 93 Tryz.f93 [(.tv (.st 2) x0),(.tv i64 x1),(.tv i64 x2),(.tv (.sl i64) x3),(.tv i64 x4)] [] [] (finC (.one .bool) κ)
  =f93.b L N (fun a0=>κ (.tv .bool a0)) x0 x1 x2 x3 x4:=by
 refine Eq.trans (b:=f93.b' L N (fun a0=>κ (.tv .bool a0)) (fun s0 s1 s2 s3 s4 s5=>evLp (E93 L N) (evCallI (E93 L N) 1 2000) 1000 93 44 0 f93.c0 (contAt (E93 L N) (evCallI (E93 L N) 1 2000) 1000 93 44 0 (codeOf Tryz.f93) (finK (E93 L N) 1000 Tryz.f93 (finC (.one .bool) κ))) L (f93.T0 s0 s1 s2 s3 s4 s5) (f93.H0 s0 s1 s2 s3 s4 s5)) x0 x1 x2 x3 x4) (by kernel_rfl) ?_
 unfold f93.b
 simp only [f93.l0_eq]
 delta f93.X0_e0 f93.X0_r
 simp only [f93.p0_e0_eq,f93.p0_r_eq]
theorem f93.ok (L N:Nat) (hΦ:TellsOk Tryz.prog ((Φ8 L N))):EntOk Tryz.prog 93 (f93.ent L N):=entRo_ok (E:=(E93 L N)) (dep:=1000) (f:=Tryz.f93) (sound_of hΦ) okP (callI_sound (sound_of hΦ) okP 1 2000) rfl rfl fun d _ hy=>(f93.b_eq L N (unR (.one .bool)) d.1 d.2.1 d.2.2.1 d.2.2.2.1 d.2.2.2.2.1).trans (Eq.trans (b:=f93.b L N some d.1 d.2.1 d.2.2.1 d.2.2.2.1 d.2.2.2.2.1) (by kernel_rfl) hy)
def Φ93 (L N:Nat):Tells:=(addT (Φ8 L N) 93 (f93.ent L N))
theorem Φ93_ok (L N:Nat):TellsOk Tryz.prog (Φ93 L N):=addT_ok (Φ8_ok L N) (f93.ok L N (Φ8_ok L N))
def f72.s0' {R:Type} (L N:Nat) (k0_e0:Option R) (k0_r:Bool→Option R) (rec0:Int→Int→LI→Int→LLM→Option R) (s0:Int) (s1:Int) (s2:LI) (s3:Int) (s4:LLM):Option R:=
 bif (decide (0≤s0)&&decide (s0<(s4.length:Int))) then
  bif (decide (s3<((listAt s4 [] s0.toNat).length:Int))) then
   bif (decide (0≤s0)&&decide (s0<(s4.length:Int))) then
    bif (decide (0≤s3)&&decide (s3<((listAt s4 [] s0.toNat).length:Int))) then
     bif (decide (0≤(listAt (listAt s4 [] s0.toNat) (Ty.dflt (.st 0)) s3.toNat).to)&&decide ((listAt (listAt s4 [] s0.toNat) (Ty.dflt (.st 0)) s3.toNat).to<(s2.length:Int))) then
      (f93 L N (Graph.mk s4) s1 ((listAt (listAt s4 [] s0.toNat) (Ty.dflt (.st 0)) s3.toNat).act) s2 (listAt s2 (0:Int) ((listAt (listAt s4 [] s0.toNat) (Ty.dflt (.st 0)) s3.toNat).to).toNat)).bind fun y5=>
      bif (!y5) then
       k0_r false
      else rec0 s0 s1 s2 (wi (s3+(1:Int))) s4
     else none
    else none
   else none
  else k0_e0
 else none
def f72.s0 {R:Type} (L N:Nat) (k0_e0:Option R) (k0_r:Bool→Option R) (rec0:Int→Int→LI→Int→LLM→Option R) (s0:Int) (s1:Int) (s2:LI) (s3:Int) (s4:LLM):Option R:=
 f72.s0' L N k0_e0 k0_r rec0 s0 s1 s2 s3 s4
def f72.l0 {R:Type} (L N:Nat) (k0_e0:Option R) (k0_r:Bool→Option R):Nat→Int→Int→LI→Int→LLM→Option R
 |0,_,_,_,_,_=>none
 |n+1,s0,s1,s2,s3,s4=>f72.s0 L N k0_e0 k0_r (f72.l0 L N k0_e0 k0_r n) s0 s1 s2 s3 s4
def f72.T0 (s0:Int) (s1:Int) (s2:LI) (s3:Int) (s4:LLM):T:=mkT 41 [(1,(.tv i64 s0)),(2,(.tv i64 s1)),(3,(.tv (.sl i64) s2)),(4,(.ptr 1004 0)),(9,(.tv i64 s3))]
def f72.H0 (s0:Int) (s1:Int) (s2:LI) (s3:Int) (s4:LLM):H:=[(1004,(.box [(.tv (.sl (.sl (.st 0))) s4)]))]
def f72.T0_e0:T:=mkT 41 []
def f72.H0_e0:H:=[]
def f72.T0_r (z6:Bool):T:=mkT 41 [(8,(.tv .bool z6))]
def f72.H0_r (z6:Bool):H:=[]
def f72.p0_e0' {R:Type} (L N:Nat) (k:Bool→Option R):Option R:=
 k true
def f72.p0_e0 {R:Type} (L N:Nat) (k:Bool→Option R):Option R:=
 f72.p0_e0' L N k
def f72.p0_r' {R:Type} (L N:Nat) (k:Bool→Option R) (z6:Bool):Option R:=
 k z6
def f72.p0_r {R:Type} (L N:Nat) (k:Bool→Option R) (z6:Bool):Option R:=
 f72.p0_r' L N k z6
def f72.b' {R:Type} (L N:Nat) (k:Bool→Option R) (w0:Int→Int→LI→Int→LLM→Option R) (x0:Graph) (x1:Int) (x2:Int) (x3:LI):Option R:=
 w0 x1 x2 x3 (0:Int) x0.moves
def f72.b {R:Type} (L N:Nat) (k:Bool→Option R) (x0:Graph) (x1:Int) (x2:Int) (x3:LI):Option R:=
 f72.b' L N k (fun s0 s1 s2 s3 s4=>f72.l0 L N (f72.p0_e0 L N k) (fun z6=>f72.p0_r L N k z6) L s0 s1 s2 s3 s4) x0 x1 x2 x3
def f72 (L N:Nat) (x0:Graph) (x1:Int) (x2:Int) (x3:LI):Option (Bool):=f72.b L N some x0 x1 x2 x3
def f72.ent (L N:Nat):=entRo [(.st 2),i64,i64,(.sl i64)] (.one .bool) fun d=>f72 L N d.1 d.2.1 d.2.2.1 d.2.2.2.1
noncomputable def E72 (L N:Nat):Env:={P:=Tryz.prog,ty:=tyOf,Φ:=(Φ93 L N),inl:=inlT,live:=lives,liveX:=livesX,L:=L,dp:=none,prom:=promT,heal:=healT,ren:=renT}
noncomputable def f72.c0:Code:=loopAt 0 (codeOf Tryz.f72)
def f72.X0_e0 {R:Type} (κ:KX R):=κ (.exit 0) f72.T0_e0 f72.H0_e0
def f72.X0_r {R:Type} (κ:KX R):=fun z6=>κ .ret (f72.T0_r z6) (f72.H0_r z6)
def f72.R0 {R:Type} (rec:KT R):=fun s0 s1 s2 s3 s4=>rec (f72.T0 s0 s1 s2 s3 s4) (f72.H0 s0 s1 s2 s3 s4)
theorem f72.s0_eq {R:Type} (L N:Nat) (κ:KX R) (rec:KT R) (s0:Int) (s1:Int) (s2:LI) (s3:Int) (s4:LLM):
  evRd (E72 L N) (evCallI (E72 L N) 1 2000) 1000 72 41 0 f72.c0 κ rec (f72.T0 s0 s1 s2 s3 s4) (f72.H0 s0 s1 s2 s3 s4)
  =f72.s0 L N (f72.X0_e0 κ) (f72.X0_r κ) (f72.R0 rec) s0 s1 s2 s3 s4:=by kernel_rfl
theorem f72.l0_eq {R:Type} (L N:Nat) (κ:KX R):∀(n:Nat) (s0:Int) (s1:Int) (s2:LI) (s3:Int) (s4:LLM),
  evLp (E72 L N) (evCallI (E72 L N) 1 2000) 1000 72 41 0 f72.c0 κ n (f72.T0 s0 s1 s2 s3 s4) (f72.H0 s0 s1 s2 s3 s4)
  =f72.l0 L N (f72.X0_e0 κ) (f72.X0_r κ) n s0 s1 s2 s3 s4:=by
 intro n
 induction n with
 |zero=>intros;rfl
 |succ n ih=>
  intro s0 s1 s2 s3 s4
  rw [evLp_succ,f72.s0_eq]
  delta f72.R0
  simp only [ih]
  rfl
theorem f72.p0_e0_eq {R:Type} (L N:Nat) (κ:AV→Option R):
  (contAt (E72 L N) (evCallI (E72 L N) 1 2000) 1000 72 41 0 (codeOf Tryz.f72) (finK (E72 L N) 1000 Tryz.f72 (finC (.one .bool) κ))) (.exit 0) f72.T0_e0 f72.H0_e0
  =f72.p0_e0 L N (fun a0=>κ (.tv .bool a0)):=by kernel_rfl
theorem f72.p0_r_eq {R:Type} (L N:Nat) (κ:AV→Option R) (z6:Bool):
  (contAt (E72 L N) (evCallI (E72 L N) 1 2000) 1000 72 41 0 (codeOf Tryz.f72) (finK (E72 L N) 1000 Tryz.f72 (finC (.one .bool) κ))) .ret (f72.T0_r z6) (f72.H0_r z6)
  =f72.p0_r L N (fun a0=>κ (.tv .bool a0)) z6:=by kernel_rfl
theorem f72.b_eq {R:Type} (L N:Nat) (κ:AV→Option R) (x0:Graph) (x1:Int) (x2:Int) (x3:LI):
  evBody (E72 L N) (evCallI (E72 L N) 1 2000) 1000 72 Tryz.f72 [(.tv (.st 2) x0),(.tv i64 x1),(.tv i64 x2),(.tv (.sl i64) x3)] [] [] (finC (.one .bool) κ)
  =f72.b L N (fun a0=>κ (.tv .bool a0)) x0 x1 x2 x3:=by
 refine Eq.trans (b:=f72.b' L N (fun a0=>κ (.tv .bool a0)) (fun s0 s1 s2 s3 s4=>evLp (E72 L N) (evCallI (E72 L N) 1 2000) 1000 72 41 0 f72.c0 (contAt (E72 L N) (evCallI (E72 L N) 1 2000) 1000 72 41 0 (codeOf Tryz.f72) (finK (E72 L N) 1000 Tryz.f72 (finC (.one .bool) κ))) L (f72.T0 s0 s1 s2 s3 s4) (f72.H0 s0 s1 s2 s3 s4)) x0 x1 x2 x3) (by kernel_rfl) ?_
 unfold f72.b
 simp only [f72.l0_eq]
 delta f72.X0_e0 f72.X0_r
 simp only [f72.p0_e0_eq,f72.p0_r_eq]
theorem f72.ok (L N:Nat) (hΦ:TellsOk Tryz.prog ((Φ93 L N))):EntOk Tryz.prog 72 (f72.ent L N):=entRo_ok (E:=(E72 L N)) (dep:=1000) (f:=Tryz.f72) (sound_of hΦ) okP (callI_sound (sound_of hΦ) okP 1 2000) rfl rfl fun d _ hy=>(f72.b_eq L N (unR (.one .bool)) d.1 d.2.1 d.2.2.1 d.2.2.2.1).trans (Eq.trans (b:=f72.b L N some d.1 d.2.1 d.2.2.1 d.2.2.2.1) (by kernel_rfl) hy)
def Φ72 (L N:Nat):Tells:=(addT (Φ93 L N) 72 (f72.ent L N))
theorem Φ72_ok (L N:Nat):TellsOk Tryz.prog (Φ72 L N):=addT_ok (Φ93_ok L N) (f72.ok L N (Φ93_ok L N))
def f65.s1' {R:Type} (L N:Nat) (k1_e2:LI→Int→Int→LLM→LI→Option R) (rec1:LI→Int→Int→Int→LLM→LI→Option R) (s5:LI) (s6:Int) (s7:Int) (s8:Int) (s9:LLM) (s10:LI):Option R:=
 bif (decide (s8≥(0:Int))) then
  bif (decide (0≤s8)&&decide (s8<(s5.length:Int))) then
   bif (decide (0≤s6)&&decide (s6<(s5.length:Int))) then
    bif ((listAt s5 (0:Int) s8.toNat)==(listAt s5 (0:Int) s6.toNat)) then
     (f72 L N (Graph.mk s9) s6 s8 s5).bind fun y16=>
     bif y16 then
      (f72 L N (Graph.mk s9) s8 s6 s5).bind fun y17=>
      bif y17 then
       rec1 s5 s6 s8 (wi (s8-(1:Int))) s9 s10
      else rec1 s5 s6 s7 (wi (s8-(1:Int))) s9 s10
     else rec1 s5 s6 s7 (wi (s8-(1:Int))) s9 s10
    else rec1 s5 s6 s7 (wi (s8-(1:Int))) s9 s10
   else none
  else none
 else k1_e2 s5 s6 s7 s9 s10
def f65.s1 {R:Type} (L N:Nat) (k1_e2:LI→Int→Int→LLM→LI→Option R) (rec1:LI→Int→Int→Int→LLM→LI→Option R) (s5:LI) (s6:Int) (s7:Int) (s8:Int) (s9:LLM) (s10:LI):Option R:=
 f65.s1' L N k1_e2 rec1 s5 s6 s7 s8 s9 s10
def f65.l1 {R:Type} (L N:Nat) (k1_e2:LI→Int→Int→LLM→LI→Option R):Nat→LI→Int→Int→Int→LLM→LI→Option R
 |0,_,_,_,_,_,_=>none
 |n+1,s5,s6,s7,s8,s9,s10=>f65.s1 L N k1_e2 (f65.l1 L N k1_e2 n) s5 s6 s7 s8 s9 s10
def f65.T1 (s5:LI) (s6:Int) (s7:Int) (s8:Int) (s9:LLM) (s10:LI):T:=mkT 52 [(1,(.tv (.sl i64) s5)),(2,(.ptr 1002 0)),(5,(.row 1009)),(6,(.tv i64 s6)),(7,(.tv i64 s7)),(8,(.tv i64 s8))]
def f65.H1 (s5:LI) (s6:Int) (s7:Int) (s8:Int) (s9:LLM) (s10:LI):H:=[(1002,(.box [(.tv (.sl (.sl (.st 0))) s9)])),(1009,(.row 3 i64 s10))]
def f65.T1_e2 (z11:LI) (z12:Int) (z13:Int) (z14:LLM) (z15:LI):T:=mkT 52 [(1,(.tv (.sl i64) z11)),(2,(.ptr 1002 0)),(5,(.row 1009)),(6,(.tv i64 z12)),(7,(.tv i64 z13))]
def f65.H1_e2 (z11:LI) (z12:Int) (z13:Int) (z14:LLM) (z15:LI):H:=[(1002,(.box [(.tv (.sl (.sl (.st 0))) z14)])),(1009,(.row 3 i64 z15))]
def f65.p1_e2' {R:Type} (L N:Nat) (k0_e0:LI→Option R) (rec0:LI→Int→LLM→LI→Option R) (z11:LI) (z12:Int) (z13:Int) (z14:LLM) (z15:LI):Option R:=
 bif (decide (z15.length+([z13]:LI).length≤lim)) then
  rec0 z11 (wi (z12+(1:Int))) z14 (z15++([z13]:LI))
 else none
def f65.p1_e2 {R:Type} (L N:Nat) (k0_e0:LI→Option R) (rec0:LI→Int→LLM→LI→Option R) (z11:LI) (z12:Int) (z13:Int) (z14:LLM) (z15:LI):Option R:=
 f65.p1_e2' L N k0_e0 rec0 z11 z12 z13 z14 z15
def f65.s0' {R:Type} (L N:Nat) (k0_e0:LI→Option R) (rec0:LI→Int→LLM→LI→Option R) (w1:LI→Int→Int→Int→LLM→LI→Option R) (s0:LI) (s1:Int) (s2:LLM) (s3:LI):Option R:=
 bif (decide (s1<(s0.length:Int))) then
  w1 s0 s1 s1 (wi (s1-(1:Int))) s2 s3
 else k0_e0 s3
def f65.s0 {R:Type} (L N:Nat) (k0_e0:LI→Option R) (rec0:LI→Int→LLM→LI→Option R) (s0:LI) (s1:Int) (s2:LLM) (s3:LI):Option R:=
 f65.s0' L N k0_e0 rec0 (fun s5 s6 s7 s8 s9 s10=>f65.l1 L N (fun z11 z12 z13 z14 z15=>f65.p1_e2 L N k0_e0 rec0 z11 z12 z13 z14 z15) L s5 s6 s7 s8 s9 s10) s0 s1 s2 s3
def f65.l0 {R:Type} (L N:Nat) (k0_e0:LI→Option R):Nat→LI→Int→LLM→LI→Option R
 |0,_,_,_,_=>none
 |n+1,s0,s1,s2,s3=>f65.s0 L N k0_e0 (f65.l0 L N k0_e0 n) s0 s1 s2 s3
def f65.T0 (s0:LI) (s1:Int) (s2:LLM) (s3:LI):T:=mkT 52 [(1,(.tv (.sl i64) s0)),(2,(.ptr 1002 0)),(5,(.row 1009)),(6,(.tv i64 s1))]
def f65.H0 (s0:LI) (s1:Int) (s2:LLM) (s3:LI):H:=[(1002,(.box [(.tv (.sl (.sl (.st 0))) s2)])),(1009,(.row 3 i64 s3))]
def f65.T0_e0 (z4:LI):T:=mkT 52 [(5,(.row 1009))]
def f65.H0_e0 (z4:LI):H:=[(1009,(.row 3 i64 z4))]
def f65.p0_e0' {R:Type} (L N:Nat) (k:LI→Option R) (z4:LI):Option R:=
 k z4
def f65.p0_e0 {R:Type} (L N:Nat) (k:LI→Option R) (z4:LI):Option R:=
 f65.p0_e0' L N k z4
def f65.b' {R:Type} (L N:Nat) (k:LI→Option R) (w0:LI→Int→LLM→LI→Option R) (x0:Graph) (x1:LI):Option R:=
 w0 x1 (0:Int) x0.moves ([]:LI)
def f65.b {R:Type} (L N:Nat) (k:LI→Option R) (x0:Graph) (x1:LI):Option R:=
 f65.b' L N k (fun s0 s1 s2 s3=>f65.l0 L N (fun z4=>f65.p0_e0 L N k z4) L s0 s1 s2 s3) x0 x1
def f65 (L N:Nat) (x0:Graph) (x1:LI):Option (LI):=f65.b L N some x0 x1
def f65.ent (L N:Nat):=entDa [(.st 2),(.sl i64)] (.one (.sl i64)) fun d=>f65 L N d.1 d.2.1
noncomputable def E65 (L N:Nat):Env:={P:=Tryz.prog,ty:=tyOf,Φ:=(Φ72 L N),inl:=inlT,live:=lives,liveX:=livesX,L:=L,dp:=none,prom:=promT,heal:=healT,ren:=renT}
noncomputable def f65.c0:Code:=loopAt 0 (codeOf Tryz.f65)
noncomputable def f65.c1:Code:=loopAt 2 f65.c0
def f65.X1_e2 {R:Type} (κ:KX R):=fun z11 z12 z13 z14 z15=>κ (.exit 2) (f65.T1_e2 z11 z12 z13 z14 z15) (f65.H1_e2 z11 z12 z13 z14 z15)
def f65.R1 {R:Type} (rec:KT R):=fun s5 s6 s7 s8 s9 s10=>rec (f65.T1 s5 s6 s7 s8 s9 s10) (f65.H1 s5 s6 s7 s8 s9 s10)
theorem f65.s1_eq {R:Type} (L N:Nat) (κ:KX R) (rec:KT R) (s5:LI) (s6:Int) (s7:Int) (s8:Int) (s9:LLM) (s10:LI):
  evRd (E65 L N) (evCallI (E65 L N) 1 2000) 1000 65 52 2 f65.c1 κ rec (f65.T1 s5 s6 s7 s8 s9 s10) (f65.H1 s5 s6 s7 s8 s9 s10)
  =f65.s1 L N (f65.X1_e2 κ) (f65.R1 rec) s5 s6 s7 s8 s9 s10:=by kernel_rfl
theorem f65.l1_eq {R:Type} (L N:Nat) (κ:KX R):∀(n:Nat) (s5:LI) (s6:Int) (s7:Int) (s8:Int) (s9:LLM) (s10:LI),
  evLp (E65 L N) (evCallI (E65 L N) 1 2000) 1000 65 52 2 f65.c1 κ n (f65.T1 s5 s6 s7 s8 s9 s10) (f65.H1 s5 s6 s7 s8 s9 s10)
  =f65.l1 L N (f65.X1_e2 κ) n s5 s6 s7 s8 s9 s10:=by
 intro n
 induction n with
 |zero=>intros;rfl
 |succ n ih=>
  intro s5 s6 s7 s8 s9 s10
  rw [evLp_succ,f65.s1_eq]
  delta f65.R1
  simp only [ih]
  rfl
def f65.X0_e0 {R:Type} (κ:KX R):=fun z4=>κ (.exit 0) (f65.T0_e0 z4) (f65.H0_e0 z4)
def f65.R0 {R:Type} (rec:KT R):=fun s0 s1 s2 s3=>rec (f65.T0 s0 s1 s2 s3) (f65.H0 s0 s1 s2 s3)
theorem f65.p1_e2_eq {R:Type} (L N:Nat) (κ:KX R) (rec:KT R) (z11:LI) (z12:Int) (z13:Int) (z14:LLM) (z15:LI):
  (contAt (E65 L N) (evCallI (E65 L N) 1 2000) 1000 65 52 2 f65.c0 (rdK (E65 L N) 1000 65 52 0 κ rec)) (.exit 2) (f65.T1_e2 z11 z12 z13 z14 z15) (f65.H1_e2 z11 z12 z13 z14 z15)
  =f65.p1_e2 L N (f65.X0_e0 κ) (f65.R0 rec) z11 z12 z13 z14 z15:=by kernel_rfl
theorem f65.s0_eq {R:Type} (L N:Nat) (κ:KX R) (rec:KT R) (s0:LI) (s1:Int) (s2:LLM) (s3:LI):
  evRd (E65 L N) (evCallI (E65 L N) 1 2000) 1000 65 52 0 f65.c0 κ rec (f65.T0 s0 s1 s2 s3) (f65.H0 s0 s1 s2 s3)
  =f65.s0 L N (f65.X0_e0 κ) (f65.R0 rec) s0 s1 s2 s3:=by
 refine Eq.trans (b:=f65.s0' L N (f65.X0_e0 κ) (f65.R0 rec) (fun s5 s6 s7 s8 s9 s10=>evLp (E65 L N) (evCallI (E65 L N) 1 2000) 1000 65 52 2 f65.c1 (contAt (E65 L N) (evCallI (E65 L N) 1 2000) 1000 65 52 2 f65.c0 (rdK (E65 L N) 1000 65 52 0 κ rec)) L (f65.T1 s5 s6 s7 s8 s9 s10) (f65.H1 s5 s6 s7 s8 s9 s10)) s0 s1 s2 s3) (by kernel_rfl) ?_
 unfold f65.s0
 simp only [f65.l1_eq]
 delta f65.X1_e2
 simp only [f65.p1_e2_eq]
theorem f65.l0_eq {R:Type} (L N:Nat) (κ:KX R):∀(n:Nat) (s0:LI) (s1:Int) (s2:LLM) (s3:LI),
  evLp (E65 L N) (evCallI (E65 L N) 1 2000) 1000 65 52 0 f65.c0 κ n (f65.T0 s0 s1 s2 s3) (f65.H0 s0 s1 s2 s3)
  =f65.l0 L N (f65.X0_e0 κ) n s0 s1 s2 s3:=by
 intro n
 induction n with
 |zero=>intros;rfl
 |succ n ih=>
  intro s0 s1 s2 s3
  rw [evLp_succ,f65.s0_eq]
  delta f65.R0
  simp only [ih]
  rfl
theorem f65.p0_e0_eq {R:Type} (L N:Nat) (κ:AV→Option R) (z4:LI):
  (contAt (E65 L N) (evCallI (E65 L N) 1 2000) 1000 65 52 0 (codeOf Tryz.f65) (finK (E65 L N) 1000 Tryz.f65 (finC (.one (.sl i64)) κ))) (.exit 0) (f65.T0_e0 z4) (f65.H0_e0 z4)
  =f65.p0_e0 L N (fun a0=>κ (.tv (.sl i64) a0)) z4:=by kernel_rfl
theorem f65.b_eq {R:Type} (L N:Nat) (κ:AV→Option R) (x0:Graph) (x1:LI):
  evBody (E65 L N) (evCallI (E65 L N) 1 2000) 1000 65 Tryz.f65 [(.tv (.st 2) x0),(.tv (.sl i64) x1)] [] [] (finC (.one (.sl i64)) κ)
  =f65.b L N (fun a0=>κ (.tv (.sl i64) a0)) x0 x1:=by
 refine Eq.trans (b:=f65.b' L N (fun a0=>κ (.tv (.sl i64) a0)) (fun s0 s1 s2 s3=>evLp (E65 L N) (evCallI (E65 L N) 1 2000) 1000 65 52 0 f65.c0 (contAt (E65 L N) (evCallI (E65 L N) 1 2000) 1000 65 52 0 (codeOf Tryz.f65) (finK (E65 L N) 1000 Tryz.f65 (finC (.one (.sl i64)) κ))) L (f65.T0 s0 s1 s2 s3) (f65.H0 s0 s1 s2 s3)) x0 x1) (by kernel_rfl) ?_
 unfold f65.b
 simp only [f65.l0_eq]
 delta f65.X0_e0
 simp only [f65.p0_e0_eq]
theorem f65.ok (L N:Nat) (hΦ:TellsOk Tryz.prog ((Φ72 L N))):EntOk Tryz.prog 65 (f65.ent L N):=entDa_ok (E:=(E65 L N)) (dep:=1000) (f:=Tryz.f65) (sound_of hΦ) okP (callI_sound (sound_of hΦ) okP 1 2000) rfl fun d _ hy=>(f65.b_eq L N (unR (.one (.sl i64))) d.1 d.2.1).trans (Eq.trans (b:=f65.b L N some d.1 d.2.1) (by kernel_rfl) hy)
def Φ65 (L N:Nat):Tells:=(addT (Φ72 L N) 65 (f65.ent L N))
theorem Φ65_ok (L N:Nat):TellsOk Tryz.prog (Φ65 L N):=addT_ok (Φ72_ok L N) (f65.ok L N (Φ72_ok L N))
def f66.s0' {R:Type} (L N:Nat) (k0_e0:Option R) (k0_r:Bool→Option R) (rec0:LI→LI→Int→Option R) (s0:LI) (s1:LI) (s2:Int):Option R:=
 bif (decide (s2<(s0.length:Int))) then
  bif (decide (0≤s2)&&decide (s2<(s0.length:Int))) then
   bif (decide (0≤s2)&&decide (s2<(s1.length:Int))) then
    bif ((listAt s0 (0:Int) s2.toNat) !=(listAt s1 (0:Int) s2.toNat)) then
     k0_r false
    else rec0 s0 s1 (wi (s2+(1:Int)))
   else none
  else none
 else k0_e0
def f66.s0 {R:Type} (L N:Nat) (k0_e0:Option R) (k0_r:Bool→Option R) (rec0:LI→LI→Int→Option R) (s0:LI) (s1:LI) (s2:Int):Option R:=
 f66.s0' L N k0_e0 k0_r rec0 s0 s1 s2
def f66.l0 {R:Type} (L N:Nat) (k0_e0:Option R) (k0_r:Bool→Option R):Nat→LI→LI→Int→Option R
 |0,_,_,_=>none
 |n+1,s0,s1,s2=>f66.s0 L N k0_e0 k0_r (f66.l0 L N k0_e0 k0_r n) s0 s1 s2
def f66.T0 (s0:LI) (s1:LI) (s2:Int):T:=mkT 26 [(0,(.tv (.sl i64) s0)),(1,(.tv (.sl i64) s1)),(5,(.tv i64 s2))]
def f66.H0 (s0:LI) (s1:LI) (s2:Int):H:=[]
def f66.T0_e0:T:=mkT 26 []
def f66.H0_e0:H:=[]
def f66.T0_r (z3:Bool):T:=mkT 26 [(4,(.tv .bool z3))]
def f66.H0_r (z3:Bool):H:=[]
def f66.p0_e0' {R:Type} (L N:Nat) (k:Bool→Option R):Option R:=
 k true
def f66.p0_e0 {R:Type} (L N:Nat) (k:Bool→Option R):Option R:=
 f66.p0_e0' L N k
def f66.p0_r' {R:Type} (L N:Nat) (k:Bool→Option R) (z3:Bool):Option R:=
 k z3
def f66.p0_r {R:Type} (L N:Nat) (k:Bool→Option R) (z3:Bool):Option R:=
 f66.p0_r' L N k z3
def f66.b' {R:Type} (L N:Nat) (k:Bool→Option R) (w0:LI→LI→Int→Option R) (x0:LI) (x1:LI):Option R:=
 bif ((x0.length:Int) !=(x1.length:Int)) then
  k false
 else w0 x0 x1 (0:Int)
def f66.b {R:Type} (L N:Nat) (k:Bool→Option R) (x0:LI) (x1:LI):Option R:=
 f66.b' L N k (fun s0 s1 s2=>f66.l0 L N (f66.p0_e0 L N k) (fun z3=>f66.p0_r L N k z3) L s0 s1 s2) x0 x1
def f66 (L N:Nat) (x0:LI) (x1:LI):Option (Bool):=f66.b L N some x0 x1
def f66.ent (L N:Nat):=entRo [(.sl i64),(.sl i64)] (.one .bool) fun d=>f66 L N d.1 d.2.1
noncomputable def E66 (L N:Nat):Env:={P:=Tryz.prog,ty:=tyOf,Φ:=(Φ65 L N),inl:=inlT,live:=lives,liveX:=livesX,L:=L,dp:=none,prom:=promT,heal:=healT,ren:=renT}
noncomputable def f66.c0:Code:=loopAt 0 (codeOf Tryz.f66)
def f66.X0_e0 {R:Type} (κ:KX R):=κ (.exit 0) f66.T0_e0 f66.H0_e0
def f66.X0_r {R:Type} (κ:KX R):=fun z3=>κ .ret (f66.T0_r z3) (f66.H0_r z3)
def f66.R0 {R:Type} (rec:KT R):=fun s0 s1 s2=>rec (f66.T0 s0 s1 s2) (f66.H0 s0 s1 s2)
theorem f66.s0_eq {R:Type} (L N:Nat) (κ:KX R) (rec:KT R) (s0:LI) (s1:LI) (s2:Int):
  evRd (E66 L N) (evCallI (E66 L N) 1 2000) 1000 66 26 0 f66.c0 κ rec (f66.T0 s0 s1 s2) (f66.H0 s0 s1 s2)
  =f66.s0 L N (f66.X0_e0 κ) (f66.X0_r κ) (f66.R0 rec) s0 s1 s2:=by kernel_rfl
theorem f66.l0_eq {R:Type} (L N:Nat) (κ:KX R):∀(n:Nat) (s0:LI) (s1:LI) (s2:Int),
  evLp (E66 L N) (evCallI (E66 L N) 1 2000) 1000 66 26 0 f66.c0 κ n (f66.T0 s0 s1 s2) (f66.H0 s0 s1 s2)
  =f66.l0 L N (f66.X0_e0 κ) (f66.X0_r κ) n s0 s1 s2:=by
 intro n
 induction n with
 |zero=>intros;rfl
 |succ n ih=>
  intro s0 s1 s2
  rw [evLp_succ,f66.s0_eq]
  delta f66.R0
  simp only [ih]
  rfl
theorem f66.p0_e0_eq {R:Type} (L N:Nat) (κ:AV→Option R):
  (contAt (E66 L N) (evCallI (E66 L N) 1 2000) 1000 66 26 0 (codeOf Tryz.f66) (finK (E66 L N) 1000 Tryz.f66 (finC (.one .bool) κ))) (.exit 0) f66.T0_e0 f66.H0_e0
  =f66.p0_e0 L N (fun a0=>κ (.tv .bool a0)):=by kernel_rfl
theorem f66.p0_r_eq {R:Type} (L N:Nat) (κ:AV→Option R) (z3:Bool):
  (contAt (E66 L N) (evCallI (E66 L N) 1 2000) 1000 66 26 0 (codeOf Tryz.f66) (finK (E66 L N) 1000 Tryz.f66 (finC (.one .bool) κ))) .ret (f66.T0_r z3) (f66.H0_r z3)
  =f66.p0_r L N (fun a0=>κ (.tv .bool a0)) z3:=by kernel_rfl
theorem f66.b_eq {R:Type} (L N:Nat) (κ:AV→Option R) (x0:LI) (x1:LI):
  evBody (E66 L N) (evCallI (E66 L N) 1 2000) 1000 66 Tryz.f66 [(.tv (.sl i64) x0),(.tv (.sl i64) x1)] [] [] (finC (.one .bool) κ)
  =f66.b L N (fun a0=>κ (.tv .bool a0)) x0 x1:=by
 refine Eq.trans (b:=f66.b' L N (fun a0=>κ (.tv .bool a0)) (fun s0 s1 s2=>evLp (E66 L N) (evCallI (E66 L N) 1 2000) 1000 66 26 0 f66.c0 (contAt (E66 L N) (evCallI (E66 L N) 1 2000) 1000 66 26 0 (codeOf Tryz.f66) (finK (E66 L N) 1000 Tryz.f66 (finC (.one .bool) κ))) L (f66.T0 s0 s1 s2) (f66.H0 s0 s1 s2)) x0 x1) (by kernel_rfl) ?_
 unfold f66.b
 simp only [f66.l0_eq]
 delta f66.X0_e0 f66.X0_r
 simp only [f66.p0_e0_eq,f66.p0_r_eq]
theorem f66.ok (L N:Nat) (hΦ:TellsOk Tryz.prog ((Φ65 L N))):EntOk Tryz.prog 66 (f66.ent L N):=entRo_ok (E:=(E66 L N)) (dep:=1000) (f:=Tryz.f66) (sound_of hΦ) okP (callI_sound (sound_of hΦ) okP 1 2000) rfl rfl fun d _ hy=>(f66.b_eq L N (unR (.one .bool)) d.1 d.2.1).trans (Eq.trans (b:=f66.b L N some d.1 d.2.1) (by kernel_rfl) hy)
def Φ66 (L N:Nat):Tells:=(addT (Φ65 L N) 66 (f66.ent L N))
theorem Φ66_ok (L N:Nat):TellsOk Tryz.prog (Φ66 L N):=addT_ok (Φ65_ok L N) (f66.ok L N (Φ65_ok L N))
def f50.s0' {R:Type} (L N:Nat) (k0_r:LLI→Option R) (rec0:LLM→LLI→Option R) (s0:LLM) (s1:LLI):Option R:=
 bif (decide (0≤(wi ((s1.length:Int)-(1:Int))))&&decide ((wi ((s1.length:Int)-(1:Int)))<(s1.length:Int))) then
  (f65 L N (Graph.mk s0) (listAt s1 [] (wi ((s1.length:Int)-(1:Int))).toNat)).bind fun y2=>
  bif (decide (0≤(wi ((s1.length:Int)-(1:Int))))&&decide ((wi ((s1.length:Int)-(1:Int)))<(s1.length:Int))) then
   (f66 L N y2 (listAt s1 [] (wi ((s1.length:Int)-(1:Int))).toNat)).bind fun y3=>
   bif y3 then
    k0_r s1
   else bif (decide (s1.length+([y2]:LLI).length≤lim)) then
    rec0 s0 (s1++([y2]:LLI))
   else none
  else none
 else none
def f50.s0 {R:Type} (L N:Nat) (k0_r:LLI→Option R) (rec0:LLM→LLI→Option R) (s0:LLM) (s1:LLI):Option R:=
 f50.s0' L N k0_r rec0 s0 s1
def f50.l0 {R:Type} (L N:Nat) (k0_r:LLI→Option R):Nat→LLM→LLI→Option R
 |0,_,_=>none
 |n+1,s0,s1=>f50.s0 L N k0_r (f50.l0 L N k0_r n) s0 s1
def f50.T0 (s0:LLM) (s1:LLI):T:=mkT 31 [(1,(.ptr 1001 0)),(3,(.row 1009))]
def f50.H0 (s0:LLM) (s1:LLI):H:=[(1001,(.box [(.tv (.sl (.sl (.st 0))) s0)])),(1009,(.row 22 (.sl i64) s1))]
def f50.T0_r (z4:LLI):T:=mkT 31 [(2,(.row 1009))]
def f50.H0_r (z4:LLI):H:=[(1009,(.row 22 (.sl i64) z4))]
def f50.p0_r' {R:Type} (L N:Nat) (k:LLI→Option R) (z4:LLI):Option R:=
 k z4
def f50.p0_r {R:Type} (L N:Nat) (k:LLI→Option R) (z4:LLI):Option R:=
 f50.p0_r' L N k z4
def f50.b' {R:Type} (L N:Nat) (k:LLI→Option R) (w0:LLM→LLI→Option R) (x0:Graph):Option R:=
 bif (decide (0≤(x0.moves.length:Int))&&decide ((x0.moves.length:Int)≤(lim:Int))) then
  w0 x0.moves ([(List.replicate (x0.moves.length:Int).toNat (0:Int))]:LLI)
 else none
def f50.b {R:Type} (L N:Nat) (k:LLI→Option R) (x0:Graph):Option R:=
 f50.b' L N k (fun s0 s1=>f50.l0 L N (fun z4=>f50.p0_r L N k z4) L s0 s1) x0
def f50 (L N:Nat) (x0:Graph):Option (LLI):=f50.b L N some x0
def f50.ent (L N:Nat):=entDa [(.st 2)] (.one (.sl (.sl i64))) fun d=>f50 L N d.1
noncomputable def E50 (L N:Nat):Env:={P:=Tryz.prog,ty:=tyOf,Φ:=(Φ66 L N),inl:=inlT,live:=lives,liveX:=livesX,L:=L,dp:=none,prom:=promT,heal:=healT,ren:=renT}
noncomputable def f50.c0:Code:=loopAt 0 (codeOf Tryz.f50)
def f50.X0_r {R:Type} (κ:KX R):=fun z4=>κ .ret (f50.T0_r z4) (f50.H0_r z4)
def f50.R0 {R:Type} (rec:KT R):=fun s0 s1=>rec (f50.T0 s0 s1) (f50.H0 s0 s1)
theorem f50.s0_eq {R:Type} (L N:Nat) (κ:KX R) (rec:KT R) (s0:LLM) (s1:LLI):
  evRd (E50 L N) (evCallI (E50 L N) 1 2000) 1000 50 31 0 f50.c0 κ rec (f50.T0 s0 s1) (f50.H0 s0 s1)
  =f50.s0 L N (f50.X0_r κ) (f50.R0 rec) s0 s1:=by kernel_rfl
theorem f50.l0_eq {R:Type} (L N:Nat) (κ:KX R):∀(n:Nat) (s0:LLM) (s1:LLI),
  evLp (E50 L N) (evCallI (E50 L N) 1 2000) 1000 50 31 0 f50.c0 κ n (f50.T0 s0 s1) (f50.H0 s0 s1)
  =f50.l0 L N (f50.X0_r κ) n s0 s1:=by
 intro n
 induction n with
 |zero=>intros;rfl
 |succ n ih=>
  intro s0 s1
  rw [evLp_succ,f50.s0_eq]
  delta f50.R0
  simp only [ih]
  rfl
theorem f50.p0_r_eq {R:Type} (L N:Nat) (κ:AV→Option R) (z4:LLI):
  (contAt (E50 L N) (evCallI (E50 L N) 1 2000) 1000 50 31 0 (codeOf Tryz.f50) (finK (E50 L N) 1000 Tryz.f50 (finC (.one (.sl (.sl i64))) κ))) .ret (f50.T0_r z4) (f50.H0_r z4)
  =f50.p0_r L N (fun a0=>κ (.tv (.sl (.sl i64)) a0)) z4:=by kernel_rfl
theorem f50.b_eq {R:Type} (L N:Nat) (κ:AV→Option R) (x0:Graph):
  evBody (E50 L N) (evCallI (E50 L N) 1 2000) 1000 50 Tryz.f50 [(.tv (.st 2) x0)] [] [] (finC (.one (.sl (.sl i64))) κ)
  =f50.b L N (fun a0=>κ (.tv (.sl (.sl i64)) a0)) x0:=by
 refine Eq.trans (b:=f50.b' L N (fun a0=>κ (.tv (.sl (.sl i64)) a0)) (fun s0 s1=>evLp (E50 L N) (evCallI (E50 L N) 1 2000) 1000 50 31 0 f50.c0 (contAt (E50 L N) (evCallI (E50 L N) 1 2000) 1000 50 31 0 (codeOf Tryz.f50) (finK (E50 L N) 1000 Tryz.f50 (finC (.one (.sl (.sl i64))) κ))) L (f50.T0 s0 s1) (f50.H0 s0 s1)) x0) (by kernel_rfl) ?_
 unfold f50.b
 simp only [f50.l0_eq]
 delta f50.X0_r
 simp only [f50.p0_r_eq]
theorem f50.ok (L N:Nat) (hΦ:TellsOk Tryz.prog ((Φ66 L N))):EntOk Tryz.prog 50 (f50.ent L N):=entDa_ok (E:=(E50 L N)) (dep:=1000) (f:=Tryz.f50) (sound_of hΦ) okP (callI_sound (sound_of hΦ) okP 1 2000) rfl fun d _ hy=>(f50.b_eq L N (unR (.one (.sl (.sl i64)))) d.1).trans (Eq.trans (b:=f50.b L N some d.1) (by kernel_rfl) hy)
def Φ50 (L N:Nat):Tells:=(addT (Φ66 L N) 50 (f50.ent L N))
theorem Φ50_ok (L N:Nat):TellsOk Tryz.prog (Φ50 L N):=addT_ok (Φ66_ok L N) (f50.ok L N (Φ66_ok L N))
def f27.b' {R:Type} (L N:Nat) (k:LI→Option R) (x0:Graph):Option R:=
 (f50 L N (Graph.mk x0.moves)).bind fun y0=>
 bif (decide (0≤(wi ((y0.length:Int)-(1:Int))))&&decide ((wi ((y0.length:Int)-(1:Int)))<(y0.length:Int))) then
  k (listAt y0 [] (wi ((y0.length:Int)-(1:Int))).toNat)
 else none
def f27.b {R:Type} (L N:Nat) (k:LI→Option R) (x0:Graph):Option R:=
 f27.b' L N k x0
def f27 (L N:Nat) (x0:Graph):Option (LI):=f27.b L N some x0
def f27.ent (L N:Nat):=entDa [(.st 2)] (.one (.sl i64)) fun d=>f27 L N d.1
noncomputable def E27 (L N:Nat):Env:={P:=Tryz.prog,ty:=tyOf,Φ:=(Φ50 L N),inl:=inlT,live:=lives,liveX:=livesX,L:=L,dp:=none,prom:=promT,heal:=healT,ren:=renT}
theorem f27.b_eq {R:Type} (L N:Nat) (κ:AV→Option R) (x0:Graph):
  evBody (E27 L N) (evCallI (E27 L N) 1 2000) 1000 27 Tryz.f27 [(.tv (.st 2) x0)] [] [] (finC (.one (.sl i64)) κ)
  =f27.b L N (fun a0=>κ (.tv (.sl i64) a0)) x0:=by kernel_rfl
theorem f27.ok (L N:Nat) (hΦ:TellsOk Tryz.prog ((Φ50 L N))):EntOk Tryz.prog 27 (f27.ent L N):=entDa_ok (E:=(E27 L N)) (dep:=1000) (f:=Tryz.f27) (sound_of hΦ) okP (callI_sound (sound_of hΦ) okP 1 2000) rfl fun d _ hy=>(f27.b_eq L N (unR (.one (.sl i64))) d.1).trans (Eq.trans (b:=f27.b L N some d.1) (by kernel_rfl) hy)
def Φ27 (L N:Nat):Tells:=(addT (Φ50 L N) 27 (f27.ent L N))
theorem Φ27_ok (L N:Nat):TellsOk Tryz.prog (Φ27 L N):=addT_ok (Φ50_ok L N) (f27.ok L N (Φ50_ok L N))
def f9.b' {R:Type} (L N:Nat) (k:LI→Option R) (x0:Graph):Option R:=
 (f7 L N (Graph.mk x0.moves)).bind fun y0=>
 bif (!y0) then
  k ([]:LI)
 else (f27 L N (Graph.mk x0.moves)).bind fun y1=>
 k y1
def f9.b {R:Type} (L N:Nat) (k:LI→Option R) (x0:Graph):Option R:=
 f9.b' L N k x0
def f9 (L N:Nat) (x0:Graph):Option (LI):=f9.b L N some x0
def f9.ent (L N:Nat):=entDa [(.st 2)] (.one (.sl i64)) fun d=>f9 L N d.1
noncomputable def E9 (L N:Nat):Env:={P:=Tryz.prog,ty:=tyOf,Φ:=(Φ27 L N),inl:=inlT,live:=lives,liveX:=livesX,L:=L,dp:=none,prom:=promT,heal:=healT,ren:=renT}
theorem f9.b_eq {R:Type} (L N:Nat) (κ:AV→Option R) (x0:Graph):
  evBody (E9 L N) (evCallI (E9 L N) 1 2000) 1000 9 Tryz.f9 [(.tv (.st 2) x0)] [] [] (finC (.one (.sl i64)) κ)
  =f9.b L N (fun a0=>κ (.tv (.sl i64) a0)) x0:=by kernel_rfl
theorem f9.ok (L N:Nat) (hΦ:TellsOk Tryz.prog ((Φ27 L N))):EntOk Tryz.prog 9 (f9.ent L N):=entDa_ok (E:=(E9 L N)) (dep:=1000) (f:=Tryz.f9) (sound_of hΦ) okP (callI_sound (sound_of hΦ) okP 1 2000) rfl fun d _ hy=>(f9.b_eq L N (unR (.one (.sl i64))) d.1).trans (Eq.trans (b:=f9.b L N some d.1) (by kernel_rfl) hy)
def Φ9 (L N:Nat):Tells:=(addT (Φ27 L N) 9 (f9.ent L N))
theorem Φ9_ok (L N:Nat):TellsOk Tryz.prog (Φ9 L N):=addT_ok (Φ27_ok L N) (f9.ok L N (Φ27_ok L N))
def f28.b' {R:Type} (L N:Nat) (k:ByteArray→Option R) (x0:Int):Option R:=
 k (strOfNums ([(IntKind.wrap .u8 ((wi ((97:Int)+x0))))]:LI))
def f28.b {R:Type} (L N:Nat) (k:ByteArray→Option R) (x0:Int):Option R:=
 f28.b' L N k x0
def f28 (L N:Nat) (x0:Int):Option (ByteArray):=f28.b L N some x0
def f28.ent (L N:Nat):=entRo [i64] (.one .str) fun d=>f28 L N d.1
noncomputable def E28 (L N:Nat):Env:={P:=Tryz.prog,ty:=tyOf,Φ:=(Φ9 L N),inl:=inlT,live:=lives,liveX:=livesX,L:=L,dp:=none,prom:=promT,heal:=healT,ren:=renT}
theorem f28.b_eq {R:Type} (L N:Nat) (κ:AV→Option R) (x0:Int):
  evBody (E28 L N) (evCallI (E28 L N) 1 2000) 1000 28 Tryz.f28 [(.tv i64 x0)] [] [] (finC (.one .str) κ)
  =f28.b L N (fun a0=>κ (.tv .str a0)) x0:=by kernel_rfl
theorem f28.ok (L N:Nat) (hΦ:TellsOk Tryz.prog ((Φ9 L N))):EntOk Tryz.prog 28 (f28.ent L N):=entRo_ok (E:=(E28 L N)) (dep:=1000) (f:=Tryz.f28) (sound_of hΦ) okP (callI_sound (sound_of hΦ) okP 1 2000) rfl rfl fun d _ hy=>(f28.b_eq L N (unR (.one .str)) d.1).trans (Eq.trans (b:=f28.b L N some d.1) (by kernel_rfl) hy)
def Φ28 (L N:Nat):Tells:=(addT (Φ9 L N) 28 (f28.ent L N))
theorem Φ28_ok (L N:Nat):TellsOk Tryz.prog (Φ28 L N):=addT_ok (Φ9_ok L N) (f28.ok L N (Φ9_ok L N))
def f29.b' {R:Type} (L N:Nat) (k:Int→Option R) (x0:Int):Option R:=
 k (wi ((bif decide ((wi (0-x0))>x0) then (wi (0-x0)) else x0)-(1:Int)))
def f29.b {R:Type} (L N:Nat) (k:Int→Option R) (x0:Int):Option R:=
 f29.b' L N k x0
def f29 (L N:Nat) (x0:Int):Option (Int):=f29.b L N some x0
def f29.ent (L N:Nat):=entRo [i64] (.one i64) fun d=>f29 L N d.1
noncomputable def E29 (L N:Nat):Env:={P:=Tryz.prog,ty:=tyOf,Φ:=(Φ28 L N),inl:=inlT,live:=lives,liveX:=livesX,L:=L,dp:=none,prom:=promT,heal:=healT,ren:=renT}
theorem f29.b_eq {R:Type} (L N:Nat) (κ:AV→Option R) (x0:Int):
  evBody (E29 L N) (evCallI (E29 L N) 1 2000) 1000 29 Tryz.f29 [(.tv i64 x0)] [] [] (finC (.one i64) κ)
  =f29.b L N (fun a0=>κ (.tv i64 a0)) x0:=by kernel_rfl
theorem f29.ok (L N:Nat) (hΦ:TellsOk Tryz.prog ((Φ28 L N))):EntOk Tryz.prog 29 (f29.ent L N):=entRo_ok (E:=(E29 L N)) (dep:=1000) (f:=Tryz.f29) (sound_of hΦ) okP (callI_sound (sound_of hΦ) okP 1 2000) rfl rfl fun d _ hy=>(f29.b_eq L N (unR (.one i64)) d.1).trans (Eq.trans (b:=f29.b L N some d.1) (by kernel_rfl) hy)
def Φ29 (L N:Nat):Tells:=(addT (Φ28 L N) 29 (f29.ent L N))
theorem Φ29_ok (L N:Nat):TellsOk Tryz.prog (Φ29 L N):=addT_ok (Φ28_ok L N) (f29.ok L N (Φ28_ok L N))
def f10.b' {R:Type} (L N:Nat) (k:ByteArray→Option R) (x0:Int):Option R:=
 (f22 L N x0).bind fun y0=>
 bif (!y0) then
  k (ByteArray.mk #[])
 else bif (x0==(0:Int)) then
  k (ByteArray.mk #[116,97,117])
 else bif (decide (x0>(0:Int))) then
  (f29 L N x0).bind fun y1=>
  (f28 L N y1).bind fun y2=>
  k y2
 else (f29 L N x0).bind fun y3=>
 (f28 L N y3).bind fun y4=>
 bif (decide ((ByteArray.mk #[33]).size+y4.size≤4611686018427387904)) then
  k ((ByteArray.mk #[33])++y4)
 else none
def f10.b {R:Type} (L N:Nat) (k:ByteArray→Option R) (x0:Int):Option R:=
 f10.b' L N k x0
def f10 (L N:Nat) (x0:Int):Option (ByteArray):=f10.b L N some x0
def f10.ent (L N:Nat):=entRo [i64] (.one .str) fun d=>f10 L N d.1
noncomputable def E10 (L N:Nat):Env:={P:=Tryz.prog,ty:=tyOf,Φ:=(Φ29 L N),inl:=inlT,live:=lives,liveX:=livesX,L:=L,dp:=none,prom:=promT,heal:=healT,ren:=renT}
theorem f10.b_eq {R:Type} (L N:Nat) (κ:AV→Option R) (x0:Int):
  evBody (E10 L N) (evCallI (E10 L N) 1 2000) 1000 10 Tryz.f10 [(.tv i64 x0)] [] [] (finC (.one .str) κ)
  =f10.b L N (fun a0=>κ (.tv .str a0)) x0:=by kernel_rfl
theorem f10.ok (L N:Nat) (hΦ:TellsOk Tryz.prog ((Φ29 L N))):EntOk Tryz.prog 10 (f10.ent L N):=entRo_ok (E:=(E10 L N)) (dep:=1000) (f:=Tryz.f10) (sound_of hΦ) okP (callI_sound (sound_of hΦ) okP 1 2000) rfl rfl fun d _ hy=>(f10.b_eq L N (unR (.one .str)) d.1).trans (Eq.trans (b:=f10.b L N some d.1) (by kernel_rfl) hy)
def Φ10 (L N:Nat):Tells:=(addT (Φ29 L N) 10 (f10.ent L N))
theorem Φ10_ok (L N:Nat):TellsOk Tryz.prog (Φ10 L N):=addT_ok (Φ29_ok L N) (f10.ok L N (Φ29_ok L N))
def f52.s0' {R:Type} (L N:Nat) (self52:Tree→Int→Option (Int)) (k0_e0:Int→Option R) (k0_r:Int→Int→Option R) (rec0:Int→Int→LT→Int→Int→Option R) (s0:Int) (s1:Int) (s2:LT) (s3:Int) (s4:Int):Option R:=
 bif (decide (s4<s3)) then
  bif (decide (0≤s4)&&decide (s4<(s2.length:Int))) then
   bif (decide (s1>s0)) then
    k0_r s1 s1
   else (self52 (Tree.mk ((listAt s2 (Ty.dflt (.st 1)) s4.toNat).op) ((listAt s2 (Ty.dflt (.st 1)) s4.toNat).n) ((listAt s2 (Ty.dflt (.st 1)) s4.toNat).parts)) (wi (s0-s1))).bind fun y8=>
   rec0 s0 (wi (s1+y8)) s2 s3 (wi (s4+(1:Int)))
  else none
 else k0_e0 s1
def f52.s0 {R:Type} (L N:Nat) (self52:Tree→Int→Option (Int)) (k0_e0:Int→Option R) (k0_r:Int→Int→Option R) (rec0:Int→Int→LT→Int→Int→Option R) (s0:Int) (s1:Int) (s2:LT) (s3:Int) (s4:Int):Option R:=
 f52.s0' L N self52 k0_e0 k0_r rec0 s0 s1 s2 s3 s4
def f52.l0 {R:Type} (L N:Nat) (self52:Tree→Int→Option (Int)) (k0_e0:Int→Option R) (k0_r:Int→Int→Option R):Nat→Int→Int→LT→Int→Int→Option R
 |0,_,_,_,_,_=>none
 |n+1,s0,s1,s2,s3,s4=>f52.s0 L N self52 k0_e0 k0_r (f52.l0 L N self52 k0_e0 k0_r n) s0 s1 s2 s3 s4
def f52.T0 (s0:Int) (s1:Int) (s2:LT) (s3:Int) (s4:Int):T:=mkT 28 [(1,(.tv i64 s0)),(5,(.tv i64 s1)),(9,(.tv (.sl (.st 1)) s2)),(10,(.tv i64 s3)),(11,(.tv i64 s4))]
def f52.H0 (s0:Int) (s1:Int) (s2:LT) (s3:Int) (s4:Int):H:=[]
def f52.T0_e0 (z5:Int):T:=mkT 28 [(5,(.tv i64 z5))]
def f52.H0_e0 (z5:Int):H:=[]
def f52.T0_r (z6:Int) (z7:Int):T:=mkT 28 [(4,(.tv i64 z6)),(5,(.tv i64 z7))]
def f52.H0_r (z6:Int) (z7:Int):H:=[]
def f52.p0_e0' {R:Type} (L N:Nat) (self52:Tree→Int→Option (Int)) (k:Int→Option R) (z5:Int):Option R:=
 k z5
def f52.p0_e0 {R:Type} (L N:Nat) (self52:Tree→Int→Option (Int)) (k:Int→Option R) (z5:Int):Option R:=
 f52.p0_e0' L N self52 k z5
def f52.p0_r' {R:Type} (L N:Nat) (self52:Tree→Int→Option (Int)) (k:Int→Option R) (z6:Int) (z7:Int):Option R:=
 k z6
def f52.p0_r {R:Type} (L N:Nat) (self52:Tree→Int→Option (Int)) (k:Int→Option R) (z6:Int) (z7:Int):Option R:=
 f52.p0_r' L N self52 k z6 z7
def f52.b' {R:Type} (L N:Nat) (self52:Tree→Int→Option (Int)) (k:Int→Option R) (w0:Int→Int→LT→Int→Int→Option R) (x0:Tree) (x1:Int):Option R:=
 w0 x1 (1:Int) x0.parts (x0.parts.length:Int) (0:Int)
def f52.b {R:Type} (L N:Nat) (self52:Tree→Int→Option (Int)) (k:Int→Option R) (x0:Tree) (x1:Int):Option R:=
 f52.b' L N self52 k (fun s0 s1 s2 s3 s4=>f52.l0 L N self52 (fun z5=>f52.p0_e0 L N self52 k z5) (fun z6 z7=>f52.p0_r L N self52 k z6 z7) L s0 s1 s2 s3 s4) x0 x1
def f52 (L N:Nat):Nat→Tree→Int→Option (Int)
 |0,_,_=>none
 |n+1,x0,x1=>f52.b L N (f52 L N n) some x0 x1
def f52.ent (L N m:Nat):=entRo [(.st 1),i64] (.one i64) fun d=>f52 L N m d.1 d.2.1
def Φ52s (L N m:Nat):Tells:=(addT (Φ10 L N) 52 (f52.ent L N m))
noncomputable def E52 (L N m:Nat):Env:={P:=Tryz.prog,ty:=tyOf,Φ:=Φ52s L N m,inl:=inlT,live:=lives,liveX:=livesX,L:=L,dp:=none,prom:=promT,heal:=healT,ren:=renT}
noncomputable def f52.c0:Code:=loopAt 0 (codeOf Tryz.f52)
def f52.X0_e0 {R:Type} (κ:KX R):=fun z5=>κ (.exit 0) (f52.T0_e0 z5) (f52.H0_e0 z5)
def f52.X0_r {R:Type} (κ:KX R):=fun z6 z7=>κ .ret (f52.T0_r z6 z7) (f52.H0_r z6 z7)
def f52.R0 {R:Type} (rec:KT R):=fun s0 s1 s2 s3 s4=>rec (f52.T0 s0 s1 s2 s3 s4) (f52.H0 s0 s1 s2 s3 s4)
theorem f52.s0_eq {R:Type} (L N m:Nat) (κ:KX R) (rec:KT R) (s0:Int) (s1:Int) (s2:LT) (s3:Int) (s4:Int):
  evRd (E52 L N m) (evCallI (E52 L N m) 1 2000) 1000 52 28 0 f52.c0 κ rec (f52.T0 s0 s1 s2 s3 s4) (f52.H0 s0 s1 s2 s3 s4)
  =f52.s0 L N (f52 L N m) (f52.X0_e0 κ) (f52.X0_r κ) (f52.R0 rec) s0 s1 s2 s3 s4:=by kernel_rfl
theorem f52.l0_eq {R:Type} (L N m:Nat) (κ:KX R):∀(n:Nat) (s0:Int) (s1:Int) (s2:LT) (s3:Int) (s4:Int),
  evLp (E52 L N m) (evCallI (E52 L N m) 1 2000) 1000 52 28 0 f52.c0 κ n (f52.T0 s0 s1 s2 s3 s4) (f52.H0 s0 s1 s2 s3 s4)
  =f52.l0 L N (f52 L N m) (f52.X0_e0 κ) (f52.X0_r κ) n s0 s1 s2 s3 s4:=by
 intro n
 induction n with
 |zero=>intros;rfl
 |succ n ih=>
  intro s0 s1 s2 s3 s4
  rw [evLp_succ,f52.s0_eq]
  delta f52.R0
  simp only [ih]
  rfl
theorem f52.p0_e0_eq {R:Type} (L N m:Nat) (κ:AV→Option R) (z5:Int):
  (contAt (E52 L N m) (evCallI (E52 L N m) 1 2000) 1000 52 28 0 (codeOf Tryz.f52) (finK (E52 L N m) 1000 Tryz.f52 (finC (.one i64) κ))) (.exit 0) (f52.T0_e0 z5) (f52.H0_e0 z5)
  =f52.p0_e0 L N (f52 L N m) (fun a0=>κ (.tv i64 a0)) z5:=by kernel_rfl
theorem f52.p0_r_eq {R:Type} (L N m:Nat) (κ:AV→Option R) (z6:Int) (z7:Int):
  (contAt (E52 L N m) (evCallI (E52 L N m) 1 2000) 1000 52 28 0 (codeOf Tryz.f52) (finK (E52 L N m) 1000 Tryz.f52 (finC (.one i64) κ))) .ret (f52.T0_r z6 z7) (f52.H0_r z6 z7)
  =f52.p0_r L N (f52 L N m) (fun a0=>κ (.tv i64 a0)) z6 z7:=by kernel_rfl
theorem f52.b_eq {R:Type} (L N m:Nat) (κ:AV→Option R) (x0:Tree) (x1:Int):
  evBody (E52 L N m) (evCallI (E52 L N m) 1 2000) 1000 52 Tryz.f52 [(.tv (.st 1) x0),(.tv i64 x1)] [] [] (finC (.one i64) κ)
  =f52.b L N (f52 L N m) (fun a0=>κ (.tv i64 a0)) x0 x1:=by
 refine Eq.trans (b:=f52.b' L N (f52 L N m) (fun a0=>κ (.tv i64 a0)) (fun s0 s1 s2 s3 s4=>evLp (E52 L N m) (evCallI (E52 L N m) 1 2000) 1000 52 28 0 f52.c0 (contAt (E52 L N m) (evCallI (E52 L N m) 1 2000) 1000 52 28 0 (codeOf Tryz.f52) (finK (E52 L N m) 1000 Tryz.f52 (finC (.one i64) κ))) L (f52.T0 s0 s1 s2 s3 s4) (f52.H0 s0 s1 s2 s3 s4)) x0 x1) (by kernel_rfl) ?_
 unfold f52.b
 simp only [f52.l0_eq]
 delta f52.X0_e0 f52.X0_r
 simp only [f52.p0_e0_eq,f52.p0_r_eq]
theorem f52.ok (L N m:Nat) (hΦ:TellsOk Tryz.prog (Φ52s L N m)):EntOk Tryz.prog 52 (f52.ent L N (m+1)):=entRo_ok (E:=(E52 L N m)) (dep:=1000) (f:=Tryz.f52) (sound_of hΦ) okP (callI_sound (sound_of hΦ) okP 1 2000) rfl rfl fun d _ hy=>(f52.b_eq L N m (unR (.one i64)) d.1 d.2.1).trans (Eq.trans (b:=f52.b L N (f52 L N m) some d.1 d.2.1) (by kernel_rfl) hy)
theorem Φ52s_ok (L N:Nat):∀m,TellsOk Tryz.prog (Φ52s L N m):=by
 intro m
 induction m with
 |zero=>exact (addT_ok (Φ10_ok L N) (entRo_no fun _=>rfl))
 |succ m ih=>exact (addT_ok (Φ10_ok L N) (f52.ok L N m ih))
def Φ52 (L N:Nat):Tells:=(addT (Φ10 L N) 52 (f52.ent L N N))
theorem Φ52_ok (L N:Nat):TellsOk Tryz.prog (Φ52 L N):=Φ52s_ok L N N
def f31.s0' {R:Type} (L N:Nat) (self31:Graph→LLI→Int→Int→Option (Tree×Bool)) (k0_e0:LLI→Int→Int→Int→LLM→Int→Int→Option R) (rec0:LLI→Int→Int→Int→LLM→Int→Int→Option R) (s0:LLI) (s1:Int) (s2:Int) (s3:Int) (s4:LLM) (s5:Int) (s6:Int):Option R:=
 bif (decide (0≤s3)&&decide (s3<(s0.length:Int))) then
  bif (decide (0≤s1)&&decide (s1<((listAt s0 [] s3.toNat).length:Int))) then
   bif (decide (0≤s3)&&decide (s3<(s0.length:Int))) then
    bif (decide (0≤s2)&&decide (s2<((listAt s0 [] s3.toNat).length:Int))) then
     bif ((listAt (listAt s0 [] s3.toNat) (0:Int) s1.toNat)==(listAt (listAt s0 [] s3.toNat) (0:Int) s2.toNat)) then
      rec0 s0 s1 s2 (wi (s3+(1:Int))) s4 s5 s6
     else k0_e0 s0 s1 s2 s3 s4 s5 s6
    else none
   else none
  else none
 else none
def f31.s0 {R:Type} (L N:Nat) (self31:Graph→LLI→Int→Int→Option (Tree×Bool)) (k0_e0:LLI→Int→Int→Int→LLM→Int→Int→Option R) (rec0:LLI→Int→Int→Int→LLM→Int→Int→Option R) (s0:LLI) (s1:Int) (s2:Int) (s3:Int) (s4:LLM) (s5:Int) (s6:Int):Option R:=
 f31.s0' L N self31 k0_e0 rec0 s0 s1 s2 s3 s4 s5 s6
def f31.l0 {R:Type} (L N:Nat) (self31:Graph→LLI→Int→Int→Option (Tree×Bool)) (k0_e0:LLI→Int→Int→Int→LLM→Int→Int→Option R):Nat→LLI→Int→Int→Int→LLM→Int→Int→Option R
 |0,_,_,_,_,_,_,_=>none
 |n+1,s0,s1,s2,s3,s4,s5,s6=>f31.s0 L N self31 k0_e0 (f31.l0 L N self31 k0_e0 n) s0 s1 s2 s3 s4 s5 s6
def f31.T0 (s0:LLI) (s1:Int) (s2:Int) (s3:Int) (s4:LLM) (s5:Int) (s6:Int):T:=mkT 162 [(1,(.tv (.sl (.sl i64)) s0)),(2,(.tv i64 s1)),(3,(.tv i64 s2)),(4,(.ptr 1004 0)),(8,(.ptr 1008 0)),(10,(.tv i64 s3))]
def f31.H0 (s0:LLI) (s1:Int) (s2:Int) (s3:Int) (s4:LLM) (s5:Int) (s6:Int):H:=[(1004,(.box [(.tv (.sl (.sl (.st 0))) s4)])),(1008,(.box [(.tv i64 s5),(.tv i64 s6),.nil]))]
def f31.T0_e0 (z7:LLI) (z8:Int) (z9:Int) (z10:Int) (z11:LLM) (z12:Int) (z13:Int):T:=mkT 162 [(1,(.tv (.sl (.sl i64)) z7)),(2,(.tv i64 z8)),(3,(.tv i64 z9)),(4,(.ptr 1004 0)),(8,(.ptr 1008 0)),(10,(.tv i64 z10))]
def f31.H0_e0 (z7:LLI) (z8:Int) (z9:Int) (z10:Int) (z11:LLM) (z12:Int) (z13:Int):H:=[(1004,(.box [(.tv (.sl (.sl (.st 0))) z11)])),(1008,(.box [(.tv i64 z12),(.tv i64 z13),.nil]))]
def f31.s2' {R:Type} (L N:Nat) (self31:Graph→LLI→Int→Int→Option (Tree×Bool)) (k2_e4:LLI→Int→Int→LI→Bool→LM→Int→Int→LLM→Int→Int→Int→Int→LI→Option R) (rec2:LLI→Int→Int→LI→Bool→LM→Int→Int→LM→Int→Int→LLM→Int→Int→Int→Int→LI→Option R) (s30:LLI) (s31:Int) (s32:Int) (s33:LI) (s34:Bool) (s35:LM) (s36:Int) (s37:Int) (s38:LM) (s39:Int) (s40:Int) (s41:LLM) (s42:Int) (s43:Int) (s44:Int) (s45:Int) (s46:LI):Option R:=
 bif (decide (s40<s39)) then
  bif (decide (0≤s40)&&decide (s40<(s38.length:Int))) then
   bif ((listAt s38 (Ty.dflt (.st 0)) s40.toNat).act==s44) then
    bif (decide (s46.length+([(listAt s38 (Ty.dflt (.st 0)) s40.toNat).to]:LI).length≤lim)) then
     bif s34 then
      rec2 s30 s31 s32 s33 true s35 s36 s37 s38 s39 (wi (s40+(1:Int))) s41 s42 s43 s44 s45 (s46++([(listAt s38 (Ty.dflt (.st 0)) s40.toNat).to]:LI))
     else bif (decide (0≤(listAt s38 (Ty.dflt (.st 0)) s40.toNat).to)&&decide ((listAt s38 (Ty.dflt (.st 0)) s40.toNat).to<(s33.length:Int))) then
      bif (decide (0≤s45)&&decide (s45<(s33.length:Int))) then
       rec2 s30 s31 s32 s33 ((listAt s33 (0:Int) ((listAt s38 (Ty.dflt (.st 0)) s40.toNat).to).toNat)==(listAt s33 (0:Int) s45.toNat)) s35 s36 s37 s38 s39 (wi (s40+(1:Int))) s41 s42 s43 s44 s45 (s46++([(listAt s38 (Ty.dflt (.st 0)) s40.toNat).to]:LI))
      else none
     else none
    else none
   else rec2 s30 s31 s32 s33 s34 s35 s36 s37 s38 s39 (wi (s40+(1:Int))) s41 s42 s43 s44 s45 s46
  else none
 else k2_e4 s30 s31 s32 s33 s34 s35 s36 s37 s41 s42 s43 s44 s45 s46
def f31.s2 {R:Type} (L N:Nat) (self31:Graph→LLI→Int→Int→Option (Tree×Bool)) (k2_e4:LLI→Int→Int→LI→Bool→LM→Int→Int→LLM→Int→Int→Int→Int→LI→Option R) (rec2:LLI→Int→Int→LI→Bool→LM→Int→Int→LM→Int→Int→LLM→Int→Int→Int→Int→LI→Option R) (s30:LLI) (s31:Int) (s32:Int) (s33:LI) (s34:Bool) (s35:LM) (s36:Int) (s37:Int) (s38:LM) (s39:Int) (s40:Int) (s41:LLM) (s42:Int) (s43:Int) (s44:Int) (s45:Int) (s46:LI):Option R:=
 f31.s2' L N self31 k2_e4 rec2 s30 s31 s32 s33 s34 s35 s36 s37 s38 s39 s40 s41 s42 s43 s44 s45 s46
def f31.l2 {R:Type} (L N:Nat) (self31:Graph→LLI→Int→Int→Option (Tree×Bool)) (k2_e4:LLI→Int→Int→LI→Bool→LM→Int→Int→LLM→Int→Int→Int→Int→LI→Option R):Nat→LLI→Int→Int→LI→Bool→LM→Int→Int→LM→Int→Int→LLM→Int→Int→Int→Int→LI→Option R
 |0,_,_,_,_,_,_,_,_,_,_,_,_,_,_,_,_,_=>none
 |n+1,s30,s31,s32,s33,s34,s35,s36,s37,s38,s39,s40,s41,s42,s43,s44,s45,s46=>f31.s2 L N self31 k2_e4 (f31.l2 L N self31 k2_e4 n) s30 s31 s32 s33 s34 s35 s36 s37 s38 s39 s40 s41 s42 s43 s44 s45 s46
def f31.T2 (s30:LLI) (s31:Int) (s32:Int) (s33:LI) (s34:Bool) (s35:LM) (s36:Int) (s37:Int) (s38:LM) (s39:Int) (s40:Int) (s41:LLM) (s42:Int) (s43:Int) (s44:Int) (s45:Int) (s46:LI):T:=mkT 162 [(1,(.tv (.sl (.sl i64)) s30)),(2,(.tv i64 s31)),(3,(.tv i64 s32)),(4,(.ptr 1004 0)),(8,(.ptr 1008 0)),(11,(.tv (.sl i64) s33)),(13,(.ptr 1013 0)),(14,(.row 1060)),(15,(.tv .bool s34)),(54,(.tv (.sl (.st 0)) s35)),(55,(.tv i64 s36)),(56,(.tv i64 s37)),(65,(.tv (.sl (.st 0)) s38)),(66,(.tv i64 s39)),(67,(.tv i64 s40))]
def f31.H2 (s30:LLI) (s31:Int) (s32:Int) (s33:LI) (s34:Bool) (s35:LM) (s36:Int) (s37:Int) (s38:LM) (s39:Int) (s40:Int) (s41:LLM) (s42:Int) (s43:Int) (s44:Int) (s45:Int) (s46:LI):H:=[(1004,(.box [(.tv (.sl (.sl (.st 0))) s41)])),(1008,(.box [(.tv i64 s42),(.tv i64 s43),.nil])),(1013,(.box [(.tv i64 s44),(.tv i64 s45)])),(1060,(.row 3 i64 s46))]
def f31.T2_e4 (z47:LLI) (z48:Int) (z49:Int) (z50:LI) (z51:Bool) (z52:LM) (z53:Int) (z54:Int) (z55:LLM) (z56:Int) (z57:Int) (z58:Int) (z59:Int) (z60:LI):T:=mkT 162 [(1,(.tv (.sl (.sl i64)) z47)),(2,(.tv i64 z48)),(3,(.tv i64 z49)),(4,(.ptr 1004 0)),(8,(.ptr 1008 0)),(11,(.tv (.sl i64) z50)),(13,(.ptr 1013 0)),(14,(.row 1060)),(15,(.tv .bool z51)),(54,(.tv (.sl (.st 0)) z52)),(55,(.tv i64 z53)),(56,(.tv i64 z54))]
def f31.H2_e4 (z47:LLI) (z48:Int) (z49:Int) (z50:LI) (z51:Bool) (z52:LM) (z53:Int) (z54:Int) (z55:LLM) (z56:Int) (z57:Int) (z58:Int) (z59:Int) (z60:LI):H:=[(1004,(.box [(.tv (.sl (.sl (.st 0))) z55)])),(1008,(.box [(.tv i64 z56),(.tv i64 z57),.nil])),(1013,(.box [(.tv i64 z58),(.tv i64 z59)])),(1060,(.row 3 i64 z60))]
def f31.s3' {R:Type} (L N:Nat) (self31:Graph→LLI→Int→Int→Option (Tree×Bool)) (k3_e6:Int→Int→Int→Int→Int→Int→LT→Option R) (k3_r:Bool→Int→Int→LT→Int→Int→Int→Int→LT→Option R) (rec3:LLI→Int→Int→Int→LLM→Int→Int→Int→Int→Int→Int→LT→LI→Option R) (s78:LLI) (s79:Int) (s80:Int) (s81:Int) (s82:LLM) (s83:Int) (s84:Int) (s85:Int) (s86:Int) (s87:Int) (s88:Int) (s89:LT) (s90:LI):Option R:=
 bif (decide (s81<s80)) then
  bif (decide (0≤s81)&&decide (s81<(s90.length:Int))) then
   (self31 (Graph.mk s82) s78 s86 (listAt s90 (0:Int) s81.toNat)).bind fun y98=>
   (f52 L N N (Tree.mk y98.1.op y98.1.n y98.1.parts) (60:Int)).bind fun y99=>
   bif (!y98.2) then
    k3_r false ((Tree.mk (0:Int) (0:Int) []).op) ((Tree.mk (0:Int) (0:Int) []).n) ((Tree.mk (0:Int) (0:Int) []).parts) s85 s86 s87 s88 s89
   else bif (decide ((wi (s79+(wi (y99+(1:Int)))))>(62:Int))) then
    k3_r false ((Tree.mk (0:Int) (0:Int) []).op) ((Tree.mk (0:Int) (0:Int) []).n) ((Tree.mk (0:Int) (0:Int) []).parts) s85 s86 s87 s88 s89
   else bif (s81==(0:Int)) then
    rec3 s78 (wi (s79+(wi (y99+(1:Int))))) s80 (wi (s81+(1:Int))) s82 s83 s84 s85 s86 ((Tree.mk y98.1.op y98.1.n y98.1.parts).op) ((Tree.mk y98.1.op y98.1.n y98.1.parts).n) ((Tree.mk y98.1.op y98.1.n y98.1.parts).parts) s90
   else rec3 s78 (wi (s79+(wi (y99+(1:Int))))) s80 (wi (s81+(1:Int))) s82 s83 s84 s85 s86 ((Tree.mk (2:Int) (0:Int) ([(Tree.mk s87 s88 s89),(Tree.mk y98.1.op y98.1.n y98.1.parts)]:LT)).op) ((Tree.mk (2:Int) (0:Int) ([(Tree.mk s87 s88 s89),(Tree.mk y98.1.op y98.1.n y98.1.parts)]:LT)).n) ((Tree.mk (2:Int) (0:Int) ([(Tree.mk s87 s88 s89),(Tree.mk y98.1.op y98.1.n y98.1.parts)]:LT)).parts) s90
  else none
 else k3_e6 s83 s84 s85 s86 s87 s88 s89
def f31.s3 {R:Type} (L N:Nat) (self31:Graph→LLI→Int→Int→Option (Tree×Bool)) (k3_e6:Int→Int→Int→Int→Int→Int→LT→Option R) (k3_r:Bool→Int→Int→LT→Int→Int→Int→Int→LT→Option R) (rec3:LLI→Int→Int→Int→LLM→Int→Int→Int→Int→Int→Int→LT→LI→Option R) (s78:LLI) (s79:Int) (s80:Int) (s81:Int) (s82:LLM) (s83:Int) (s84:Int) (s85:Int) (s86:Int) (s87:Int) (s88:Int) (s89:LT) (s90:LI):Option R:=
 f31.s3' L N self31 k3_e6 k3_r rec3 s78 s79 s80 s81 s82 s83 s84 s85 s86 s87 s88 s89 s90
def f31.l3 {R:Type} (L N:Nat) (self31:Graph→LLI→Int→Int→Option (Tree×Bool)) (k3_e6:Int→Int→Int→Int→Int→Int→LT→Option R) (k3_r:Bool→Int→Int→LT→Int→Int→Int→Int→LT→Option R):Nat→LLI→Int→Int→Int→LLM→Int→Int→Int→Int→Int→Int→LT→LI→Option R
 |0,_,_,_,_,_,_,_,_,_,_,_,_,_=>none
 |n+1,s78,s79,s80,s81,s82,s83,s84,s85,s86,s87,s88,s89,s90=>f31.s3 L N self31 k3_e6 k3_r (f31.l3 L N self31 k3_e6 k3_r n) s78 s79 s80 s81 s82 s83 s84 s85 s86 s87 s88 s89 s90
def f31.T3 (s78:LLI) (s79:Int) (s80:Int) (s81:Int) (s82:LLM) (s83:Int) (s84:Int) (s85:Int) (s86:Int) (s87:Int) (s88:Int) (s89:LT) (s90:LI):T:=mkT 162 [(1,(.tv (.sl (.sl i64)) s78)),(4,(.ptr 1004 0)),(8,(.ptr 1008 0)),(13,(.ptr 1013 0)),(18,(.ptr 1018 0)),(19,(.tv i64 s79)),(98,(.row 1060)),(99,(.tv i64 s80)),(100,(.tv i64 s81))]
def f31.H3 (s78:LLI) (s79:Int) (s80:Int) (s81:Int) (s82:LLM) (s83:Int) (s84:Int) (s85:Int) (s86:Int) (s87:Int) (s88:Int) (s89:LT) (s90:LI):H:=[(1004,(.box [(.tv (.sl (.sl (.st 0))) s82)])),(1008,(.box [(.tv i64 s83),(.tv i64 s84),.nil])),(1013,(.box [(.tv i64 s85),(.tv i64 s86)])),(1018,(.box [(.tv i64 s87),(.tv i64 s88),(.tv (.sl (.st 1)) s89)])),(1060,(.row 3 i64 s90))]
def f31.T3_e6 (z91:Int) (z92:Int) (z93:Int) (z94:Int) (z95:Int) (z96:Int) (z97:LT):T:=mkT 162 [(8,(.ptr 1008 0)),(13,(.ptr 1013 0)),(18,(.ptr 1018 0))]
def f31.H3_e6 (z91:Int) (z92:Int) (z93:Int) (z94:Int) (z95:Int) (z96:Int) (z97:LT):H:=[(1008,(.box [(.tv i64 z91),(.tv i64 z92),.nil])),(1013,(.box [(.tv i64 z93),(.tv i64 z94)])),(1018,(.box [(.tv i64 z95),(.tv i64 z96),(.tv (.sl (.st 1)) z97)]))]
def f31.T3_r (z118:Bool) (z119:Int) (z120:Int) (z121:LT) (z122:Int) (z123:Int) (z124:Int) (z125:Int) (z126:LT):T:=mkT 162 [(8,(.ptr 1008 0)),(9,(.tv .bool z118)),(13,(.ptr 1013 0)),(18,(.ptr 1018 0))]
def f31.H3_r (z118:Bool) (z119:Int) (z120:Int) (z121:LT) (z122:Int) (z123:Int) (z124:Int) (z125:Int) (z126:LT):H:=[(1008,(.box [(.tv i64 z119),(.tv i64 z120),(.tv (.sl (.st 1)) z121)])),(1013,(.box [(.tv i64 z122),(.tv i64 z123)])),(1018,(.box [(.tv i64 z124),(.tv i64 z125),(.tv (.sl (.st 1)) z126)]))]
def f31.p3_e6' {R:Type} (L N:Nat) (self31:Graph→LLI→Int→Int→Option (Tree×Bool)) (k1_e2:LLI→Int→Int→LLM→Int→Int→Option R) (k1_r:Bool→Int→Int→LT→Option R) (rec1:LLI→Int→Int→LI→LM→Int→Int→LLM→Int→Int→Option R) (z91:Int) (z92:Int) (z93:Int) (z94:Int) (z95:Int) (z96:Int) (z97:LT):Option R:=
 (f52 L N N (Tree.mk ((Tree.mk (3:Int) z93 ([(Tree.mk z95 z96 z97)]:LT)).op) ((Tree.mk (3:Int) z93 ([(Tree.mk z95 z96 z97)]:LT)).n) ((Tree.mk (3:Int) z93 ([(Tree.mk z95 z96 z97)]:LT)).parts)) (60:Int)).bind fun y161=>
 k1_r (decide (y161≤(60:Int))) ((Tree.mk ((Tree.mk (3:Int) z93 ([(Tree.mk z95 z96 z97)]:LT)).op) ((Tree.mk (3:Int) z93 ([(Tree.mk z95 z96 z97)]:LT)).n) ((Tree.mk (3:Int) z93 ([(Tree.mk z95 z96 z97)]:LT)).parts)).op) ((Tree.mk ((Tree.mk (3:Int) z93 ([(Tree.mk z95 z96 z97)]:LT)).op) ((Tree.mk (3:Int) z93 ([(Tree.mk z95 z96 z97)]:LT)).n) ((Tree.mk (3:Int) z93 ([(Tree.mk z95 z96 z97)]:LT)).parts)).n) ((Tree.mk ((Tree.mk (3:Int) z93 ([(Tree.mk z95 z96 z97)]:LT)).op) ((Tree.mk (3:Int) z93 ([(Tree.mk z95 z96 z97)]:LT)).n) ((Tree.mk (3:Int) z93 ([(Tree.mk z95 z96 z97)]:LT)).parts)).parts)
def f31.p3_e6 {R:Type} (L N:Nat) (self31:Graph→LLI→Int→Int→Option (Tree×Bool)) (k1_e2:LLI→Int→Int→LLM→Int→Int→Option R) (k1_r:Bool→Int→Int→LT→Option R) (rec1:LLI→Int→Int→LI→LM→Int→Int→LLM→Int→Int→Option R) (z91:Int) (z92:Int) (z93:Int) (z94:Int) (z95:Int) (z96:Int) (z97:LT):Option R:=
 f31.p3_e6' L N self31 k1_e2 k1_r rec1 z91 z92 z93 z94 z95 z96 z97
def f31.p3_r' {R:Type} (L N:Nat) (self31:Graph→LLI→Int→Int→Option (Tree×Bool)) (k1_e2:LLI→Int→Int→LLM→Int→Int→Option R) (k1_r:Bool→Int→Int→LT→Option R) (rec1:LLI→Int→Int→LI→LM→Int→Int→LLM→Int→Int→Option R) (z118:Bool) (z119:Int) (z120:Int) (z121:LT) (z122:Int) (z123:Int) (z124:Int) (z125:Int) (z126:LT):Option R:=
 k1_r z118 z119 z120 z121
def f31.p3_r {R:Type} (L N:Nat) (self31:Graph→LLI→Int→Int→Option (Tree×Bool)) (k1_e2:LLI→Int→Int→LLM→Int→Int→Option R) (k1_r:Bool→Int→Int→LT→Option R) (rec1:LLI→Int→Int→LI→LM→Int→Int→LLM→Int→Int→Option R) (z118:Bool) (z119:Int) (z120:Int) (z121:LT) (z122:Int) (z123:Int) (z124:Int) (z125:Int) (z126:LT):Option R:=
 f31.p3_r' L N self31 k1_e2 k1_r rec1 z118 z119 z120 z121 z122 z123 z124 z125 z126
def f31.p2_e4' {R:Type} (L N:Nat) (self31:Graph→LLI→Int→Int→Option (Tree×Bool)) (k1_e2:LLI→Int→Int→LLM→Int→Int→Option R) (k1_r:Bool→Int→Int→LT→Option R) (rec1:LLI→Int→Int→LI→LM→Int→Int→LLM→Int→Int→Option R) (w3:LLI→Int→Int→Int→LLM→Int→Int→Int→Int→Int→Int→LT→LI→Option R) (z47:LLI) (z48:Int) (z49:Int) (z50:LI) (z51:Bool) (z52:LM) (z53:Int) (z54:Int) (z55:LLM) (z56:Int) (z57:Int) (z58:Int) (z59:Int) (z60:LI):Option R:=
 bif z51 then
  rec1 z47 z48 z49 z50 z52 z53 (wi (z54+(1:Int))) z55 z56 z57
 else w3 z47 (1:Int) (z60.length:Int) (0:Int) z55 z56 z57 z58 z59 ((Tree.mk (0:Int) (0:Int) []).op) ((Tree.mk (0:Int) (0:Int) []).n) ((Tree.mk (0:Int) (0:Int) []).parts) z60
def f31.p2_e4 {R:Type} (L N:Nat) (self31:Graph→LLI→Int→Int→Option (Tree×Bool)) (k1_e2:LLI→Int→Int→LLM→Int→Int→Option R) (k1_r:Bool→Int→Int→LT→Option R) (rec1:LLI→Int→Int→LI→LM→Int→Int→LLM→Int→Int→Option R) (z47:LLI) (z48:Int) (z49:Int) (z50:LI) (z51:Bool) (z52:LM) (z53:Int) (z54:Int) (z55:LLM) (z56:Int) (z57:Int) (z58:Int) (z59:Int) (z60:LI):Option R:=
 f31.p2_e4' L N self31 k1_e2 k1_r rec1 (fun s78 s79 s80 s81 s82 s83 s84 s85 s86 s87 s88 s89 s90=>f31.l3 L N self31 (fun z91 z92 z93 z94 z95 z96 z97=>f31.p3_e6 L N self31 k1_e2 k1_r rec1 z91 z92 z93 z94 z95 z96 z97) (fun z118 z119 z120 z121 z122 z123 z124 z125 z126=>f31.p3_r L N self31 k1_e2 k1_r rec1 z118 z119 z120 z121 z122 z123 z124 z125 z126) L s78 s79 s80 s81 s82 s83 s84 s85 s86 s87 s88 s89 s90) z47 z48 z49 z50 z51 z52 z53 z54 z55 z56 z57 z58 z59 z60
def f31.s1' {R:Type} (L N:Nat) (self31:Graph→LLI→Int→Int→Option (Tree×Bool)) (k1_e2:LLI→Int→Int→LLM→Int→Int→Option R) (k1_r:Bool→Int→Int→LT→Option R) (rec1:LLI→Int→Int→LI→LM→Int→Int→LLM→Int→Int→Option R) (w2:LLI→Int→Int→LI→Bool→LM→Int→Int→LM→Int→Int→LLM→Int→Int→Int→Int→LI→Option R) (s14:LLI) (s15:Int) (s16:Int) (s17:LI) (s18:LM) (s19:Int) (s20:Int) (s21:LLM) (s22:Int) (s23:Int):Option R:=
 bif (decide (s20<s19)) then
  bif (decide (0≤s20)&&decide (s20<(s18.length:Int))) then
   bif (decide (0≤s16)&&decide (s16<(s21.length:Int))) then
    w2 s14 s15 s16 s17 false s18 s19 s20 (listAt s21 [] s16.toNat) ((listAt s21 [] s16.toNat).length:Int) (0:Int) s21 s22 s23 ((listAt s18 (Ty.dflt (.st 0)) s20.toNat).act) ((listAt s18 (Ty.dflt (.st 0)) s20.toNat).to) ([]:LI)
   else none
  else none
 else k1_e2 s14 s15 s16 s21 s22 s23
def f31.s1 {R:Type} (L N:Nat) (self31:Graph→LLI→Int→Int→Option (Tree×Bool)) (k1_e2:LLI→Int→Int→LLM→Int→Int→Option R) (k1_r:Bool→Int→Int→LT→Option R) (rec1:LLI→Int→Int→LI→LM→Int→Int→LLM→Int→Int→Option R) (s14:LLI) (s15:Int) (s16:Int) (s17:LI) (s18:LM) (s19:Int) (s20:Int) (s21:LLM) (s22:Int) (s23:Int):Option R:=
 f31.s1' L N self31 k1_e2 k1_r rec1 (fun s30 s31 s32 s33 s34 s35 s36 s37 s38 s39 s40 s41 s42 s43 s44 s45 s46=>f31.l2 L N self31 (fun z47 z48 z49 z50 z51 z52 z53 z54 z55 z56 z57 z58 z59 z60=>f31.p2_e4 L N self31 k1_e2 k1_r rec1 z47 z48 z49 z50 z51 z52 z53 z54 z55 z56 z57 z58 z59 z60) L s30 s31 s32 s33 s34 s35 s36 s37 s38 s39 s40 s41 s42 s43 s44 s45 s46) s14 s15 s16 s17 s18 s19 s20 s21 s22 s23
def f31.l1 {R:Type} (L N:Nat) (self31:Graph→LLI→Int→Int→Option (Tree×Bool)) (k1_e2:LLI→Int→Int→LLM→Int→Int→Option R) (k1_r:Bool→Int→Int→LT→Option R):Nat→LLI→Int→Int→LI→LM→Int→Int→LLM→Int→Int→Option R
 |0,_,_,_,_,_,_,_,_,_,_=>none
 |n+1,s14,s15,s16,s17,s18,s19,s20,s21,s22,s23=>f31.s1 L N self31 k1_e2 k1_r (f31.l1 L N self31 k1_e2 k1_r n) s14 s15 s16 s17 s18 s19 s20 s21 s22 s23
def f31.T1 (s14:LLI) (s15:Int) (s16:Int) (s17:LI) (s18:LM) (s19:Int) (s20:Int) (s21:LLM) (s22:Int) (s23:Int):T:=mkT 162 [(1,(.tv (.sl (.sl i64)) s14)),(2,(.tv i64 s15)),(3,(.tv i64 s16)),(4,(.ptr 1004 0)),(8,(.ptr 1008 0)),(11,(.tv (.sl i64) s17)),(54,(.tv (.sl (.st 0)) s18)),(55,(.tv i64 s19)),(56,(.tv i64 s20))]
def f31.H1 (s14:LLI) (s15:Int) (s16:Int) (s17:LI) (s18:LM) (s19:Int) (s20:Int) (s21:LLM) (s22:Int) (s23:Int):H:=[(1004,(.box [(.tv (.sl (.sl (.st 0))) s21)])),(1008,(.box [(.tv i64 s22),(.tv i64 s23),.nil]))]
def f31.T1_e2 (z24:LLI) (z25:Int) (z26:Int) (z27:LLM) (z28:Int) (z29:Int):T:=mkT 162 [(1,(.tv (.sl (.sl i64)) z24)),(2,(.tv i64 z25)),(3,(.tv i64 z26)),(4,(.ptr 1004 0)),(8,(.ptr 1008 0))]
def f31.H1_e2 (z24:LLI) (z25:Int) (z26:Int) (z27:LLM) (z28:Int) (z29:Int):H:=[(1004,(.box [(.tv (.sl (.sl (.st 0))) z27)])),(1008,(.box [(.tv i64 z28),(.tv i64 z29),.nil]))]
def f31.T1_r (z157:Bool) (z158:Int) (z159:Int) (z160:LT):T:=mkT 162 [(8,(.ptr 1008 0)),(9,(.tv .bool z157))]
def f31.H1_r (z157:Bool) (z158:Int) (z159:Int) (z160:LT):H:=[(1008,(.box [(.tv i64 z158),(.tv i64 z159),(.tv (.sl (.st 1)) z160)]))]
def f31.p1_e2' {R:Type} (L N:Nat) (self31:Graph→LLI→Int→Int→Option (Tree×Bool)) (k:Tree→Bool→Option R) (z24:LLI) (z25:Int) (z26:Int) (z27:LLM) (z28:Int) (z29:Int):Option R:=
 (self31 (Graph.mk z27) z24 z26 z25).bind fun y162=>
 bif y162.2 then
  (f52 L N N (Tree.mk ((Tree.mk (1:Int) (0:Int) ([(Tree.mk y162.1.op y162.1.n y162.1.parts)]:LT)).op) ((Tree.mk (1:Int) (0:Int) ([(Tree.mk y162.1.op y162.1.n y162.1.parts)]:LT)).n) ((Tree.mk (1:Int) (0:Int) ([(Tree.mk y162.1.op y162.1.n y162.1.parts)]:LT)).parts)) (60:Int)).bind fun y163=>
  k (Tree.mk ((Tree.mk ((Tree.mk (1:Int) (0:Int) ([(Tree.mk y162.1.op y162.1.n y162.1.parts)]:LT)).op) ((Tree.mk (1:Int) (0:Int) ([(Tree.mk y162.1.op y162.1.n y162.1.parts)]:LT)).n) ((Tree.mk (1:Int) (0:Int) ([(Tree.mk y162.1.op y162.1.n y162.1.parts)]:LT)).parts)).op) ((Tree.mk ((Tree.mk (1:Int) (0:Int) ([(Tree.mk y162.1.op y162.1.n y162.1.parts)]:LT)).op) ((Tree.mk (1:Int) (0:Int) ([(Tree.mk y162.1.op y162.1.n y162.1.parts)]:LT)).n) ((Tree.mk (1:Int) (0:Int) ([(Tree.mk y162.1.op y162.1.n y162.1.parts)]:LT)).parts)).n) ((Tree.mk ((Tree.mk (1:Int) (0:Int) ([(Tree.mk y162.1.op y162.1.n y162.1.parts)]:LT)).op) ((Tree.mk (1:Int) (0:Int) ([(Tree.mk y162.1.op y162.1.n y162.1.parts)]:LT)).n) ((Tree.mk (1:Int) (0:Int) ([(Tree.mk y162.1.op y162.1.n y162.1.parts)]:LT)).parts)).parts)) (decide (y163≤(60:Int)))
 else k (Tree.mk ((Tree.mk ((Tree.mk (1:Int) (0:Int) ([(Tree.mk y162.1.op y162.1.n y162.1.parts)]:LT)).op) ((Tree.mk (1:Int) (0:Int) ([(Tree.mk y162.1.op y162.1.n y162.1.parts)]:LT)).n) ((Tree.mk (1:Int) (0:Int) ([(Tree.mk y162.1.op y162.1.n y162.1.parts)]:LT)).parts)).op) ((Tree.mk ((Tree.mk (1:Int) (0:Int) ([(Tree.mk y162.1.op y162.1.n y162.1.parts)]:LT)).op) ((Tree.mk (1:Int) (0:Int) ([(Tree.mk y162.1.op y162.1.n y162.1.parts)]:LT)).n) ((Tree.mk (1:Int) (0:Int) ([(Tree.mk y162.1.op y162.1.n y162.1.parts)]:LT)).parts)).n) ((Tree.mk ((Tree.mk (1:Int) (0:Int) ([(Tree.mk y162.1.op y162.1.n y162.1.parts)]:LT)).op) ((Tree.mk (1:Int) (0:Int) ([(Tree.mk y162.1.op y162.1.n y162.1.parts)]:LT)).n) ((Tree.mk (1:Int) (0:Int) ([(Tree.mk y162.1.op y162.1.n y162.1.parts)]:LT)).parts)).parts)) false
def f31.p1_e2 {R:Type} (L N:Nat) (self31:Graph→LLI→Int→Int→Option (Tree×Bool)) (k:Tree→Bool→Option R) (z24:LLI) (z25:Int) (z26:Int) (z27:LLM) (z28:Int) (z29:Int):Option R:=
 f31.p1_e2' L N self31 k z24 z25 z26 z27 z28 z29
def f31.p1_r' {R:Type} (L N:Nat) (self31:Graph→LLI→Int→Int→Option (Tree×Bool)) (k:Tree→Bool→Option R) (z157:Bool) (z158:Int) (z159:Int) (z160:LT):Option R:=
 k (Tree.mk z158 z159 z160) z157
def f31.p1_r {R:Type} (L N:Nat) (self31:Graph→LLI→Int→Int→Option (Tree×Bool)) (k:Tree→Bool→Option R) (z157:Bool) (z158:Int) (z159:Int) (z160:LT):Option R:=
 f31.p1_r' L N self31 k z157 z158 z159 z160
def f31.p0_e0' {R:Type} (L N:Nat) (self31:Graph→LLI→Int→Int→Option (Tree×Bool)) (k:Tree→Bool→Option R) (w1:LLI→Int→Int→LI→LM→Int→Int→LLM→Int→Int→Option R) (z7:LLI) (z8:Int) (z9:Int) (z10:Int) (z11:LLM) (z12:Int) (z13:Int):Option R:=
 bif (decide (0≤(wi (z10-(1:Int))))&&decide ((wi (z10-(1:Int)))<(z7.length:Int))) then
  bif (decide (0≤z8)&&decide (z8<(z11.length:Int))) then
   w1 z7 z8 z9 (listAt z7 [] (wi (z10-(1:Int))).toNat) (listAt z11 [] z8.toNat) ((listAt z11 [] z8.toNat).length:Int) (0:Int) z11 z12 z13
  else none
 else none
def f31.p0_e0 {R:Type} (L N:Nat) (self31:Graph→LLI→Int→Int→Option (Tree×Bool)) (k:Tree→Bool→Option R) (z7:LLI) (z8:Int) (z9:Int) (z10:Int) (z11:LLM) (z12:Int) (z13:Int):Option R:=
 f31.p0_e0' L N self31 k (fun s14 s15 s16 s17 s18 s19 s20 s21 s22 s23=>f31.l1 L N self31 (fun z24 z25 z26 z27 z28 z29=>f31.p1_e2 L N self31 k z24 z25 z26 z27 z28 z29) (fun z157 z158 z159 z160=>f31.p1_r L N self31 k z157 z158 z159 z160) L s14 s15 s16 s17 s18 s19 s20 s21 s22 s23) z7 z8 z9 z10 z11 z12 z13
def f31.b' {R:Type} (L N:Nat) (self31:Graph→LLI→Int→Int→Option (Tree×Bool)) (k:Tree→Bool→Option R) (w0:LLI→Int→Int→Int→LLM→Int→Int→Option R) (x0:Graph) (x1:LLI) (x2:Int) (x3:Int):Option R:=
 w0 x1 x2 x3 (0:Int) x0.moves (0:Int) (0:Int)
def f31.b {R:Type} (L N:Nat) (self31:Graph→LLI→Int→Int→Option (Tree×Bool)) (k:Tree→Bool→Option R) (x0:Graph) (x1:LLI) (x2:Int) (x3:Int):Option R:=
 f31.b' L N self31 k (fun s0 s1 s2 s3 s4 s5 s6=>f31.l0 L N self31 (fun z7 z8 z9 z10 z11 z12 z13=>f31.p0_e0 L N self31 k z7 z8 z9 z10 z11 z12 z13) L s0 s1 s2 s3 s4 s5 s6) x0 x1 x2 x3
def f31 (L N:Nat):Nat→Graph→LLI→Int→Int→Option (Tree×Bool)
 |0,_,_,_,_=>none
 |n+1,x0,x1,x2,x3=>f31.b L N (f31 L N n) (fun a0 a1=>some (a0,a1)) x0 x1 x2 x3
def f31.ent (L N m:Nat):=entDa [(.st 2),(.sl (.sl i64)),i64,i64] (.many [(.st 1),.bool]) fun d=>f31 L N m d.1 d.2.1 d.2.2.1 d.2.2.2.1
def Φ31s (L N m:Nat):Tells:=(addT (Φ52 L N) 31 (f31.ent L N m))
noncomputable def E31 (L N m:Nat):Env:={P:=Tryz.prog,ty:=tyOf,Φ:=Φ31s L N m,inl:=inlT,live:=lives,liveX:=livesX,L:=L,dp:=none,prom:=promT,heal:=healT,ren:=renT,zd:=true}
noncomputable def f31.c0:Code:=loopAt 0 (codeOf Tryz.f31)
def f31.X0_e0 {R:Type} (κ:KX R):=fun z7 z8 z9 z10 z11 z12 z13=>κ (.exit 0) (f31.T0_e0 z7 z8 z9 z10 z11 z12 z13) (f31.H0_e0 z7 z8 z9 z10 z11 z12 z13)
def f31.R0 {R:Type} (rec:KT R):=fun s0 s1 s2 s3 s4 s5 s6=>rec (f31.T0 s0 s1 s2 s3 s4 s5 s6) (f31.H0 s0 s1 s2 s3 s4 s5 s6)
theorem f31.s0_eq {R:Type} (L N m:Nat) (κ:KX R) (rec:KT R) (s0:LLI) (s1:Int) (s2:Int) (s3:Int) (s4:LLM) (s5:Int) (s6:Int):
  evRd (E31 L N m) (evCallI (E31 L N m) 1 2000) 1000 31 162 0 f31.c0 κ rec (f31.T0 s0 s1 s2 s3 s4 s5 s6) (f31.H0 s0 s1 s2 s3 s4 s5 s6)
  =f31.s0 L N (f31 L N m) (f31.X0_e0 κ) (f31.R0 rec) s0 s1 s2 s3 s4 s5 s6:=by kernel_rfl
theorem f31.l0_eq {R:Type} (L N m:Nat) (κ:KX R):∀(n:Nat) (s0:LLI) (s1:Int) (s2:Int) (s3:Int) (s4:LLM) (s5:Int) (s6:Int),
  evLp (E31 L N m) (evCallI (E31 L N m) 1 2000) 1000 31 162 0 f31.c0 κ n (f31.T0 s0 s1 s2 s3 s4 s5 s6) (f31.H0 s0 s1 s2 s3 s4 s5 s6)
  =f31.l0 L N (f31 L N m) (f31.X0_e0 κ) n s0 s1 s2 s3 s4 s5 s6:=by
 intro n
 induction n with
 |zero=>intros;rfl
 |succ n ih=>
  intro s0 s1 s2 s3 s4 s5 s6
  rw [evLp_succ,f31.s0_eq]
  delta f31.R0
  simp only [ih]
  rfl
noncomputable def f31.c1:Code:=loopAt 2 (codeOf Tryz.f31)
noncomputable def f31.c2:Code:=loopAt 4 f31.c1
def f31.X2_e4 {R:Type} (κ:KX R):=fun z47 z48 z49 z50 z51 z52 z53 z54 z55 z56 z57 z58 z59 z60=>κ (.exit 4) (f31.T2_e4 z47 z48 z49 z50 z51 z52 z53 z54 z55 z56 z57 z58 z59 z60) (f31.H2_e4 z47 z48 z49 z50 z51 z52 z53 z54 z55 z56 z57 z58 z59 z60)
def f31.R2 {R:Type} (rec:KT R):=fun s30 s31 s32 s33 s34 s35 s36 s37 s38 s39 s40 s41 s42 s43 s44 s45 s46=>rec (f31.T2 s30 s31 s32 s33 s34 s35 s36 s37 s38 s39 s40 s41 s42 s43 s44 s45 s46) (f31.H2 s30 s31 s32 s33 s34 s35 s36 s37 s38 s39 s40 s41 s42 s43 s44 s45 s46)
theorem f31.s2_eq {R:Type} (L N m:Nat) (κ:KX R) (rec:KT R) (s30:LLI) (s31:Int) (s32:Int) (s33:LI) (s34:Bool) (s35:LM) (s36:Int) (s37:Int) (s38:LM) (s39:Int) (s40:Int) (s41:LLM) (s42:Int) (s43:Int) (s44:Int) (s45:Int) (s46:LI):
  evRd (E31 L N m) (evCallI (E31 L N m) 1 2000) 1000 31 162 4 f31.c2 κ rec (f31.T2 s30 s31 s32 s33 s34 s35 s36 s37 s38 s39 s40 s41 s42 s43 s44 s45 s46) (f31.H2 s30 s31 s32 s33 s34 s35 s36 s37 s38 s39 s40 s41 s42 s43 s44 s45 s46)
  =f31.s2 L N (f31 L N m) (f31.X2_e4 κ) (f31.R2 rec) s30 s31 s32 s33 s34 s35 s36 s37 s38 s39 s40 s41 s42 s43 s44 s45 s46:=by kernel_rfl
theorem f31.l2_eq {R:Type} (L N m:Nat) (κ:KX R):∀(n:Nat) (s30:LLI) (s31:Int) (s32:Int) (s33:LI) (s34:Bool) (s35:LM) (s36:Int) (s37:Int) (s38:LM) (s39:Int) (s40:Int) (s41:LLM) (s42:Int) (s43:Int) (s44:Int) (s45:Int) (s46:LI),
  evLp (E31 L N m) (evCallI (E31 L N m) 1 2000) 1000 31 162 4 f31.c2 κ n (f31.T2 s30 s31 s32 s33 s34 s35 s36 s37 s38 s39 s40 s41 s42 s43 s44 s45 s46) (f31.H2 s30 s31 s32 s33 s34 s35 s36 s37 s38 s39 s40 s41 s42 s43 s44 s45 s46)
  =f31.l2 L N (f31 L N m) (f31.X2_e4 κ) n s30 s31 s32 s33 s34 s35 s36 s37 s38 s39 s40 s41 s42 s43 s44 s45 s46:=by
 intro n
 induction n with
 |zero=>intros;rfl
 |succ n ih=>
  intro s30 s31 s32 s33 s34 s35 s36 s37 s38 s39 s40 s41 s42 s43 s44 s45 s46
  rw [evLp_succ,f31.s2_eq]
  delta f31.R2
  simp only [ih]
  rfl
noncomputable def f31.c3:Code:=loopAt 6 f31.c1
def f31.X3_e6 {R:Type} (κ:KX R):=fun z91 z92 z93 z94 z95 z96 z97=>κ (.exit 6) (f31.T3_e6 z91 z92 z93 z94 z95 z96 z97) (f31.H3_e6 z91 z92 z93 z94 z95 z96 z97)
def f31.X3_r {R:Type} (κ:KX R):=fun z118 z119 z120 z121 z122 z123 z124 z125 z126=>κ .ret (f31.T3_r z118 z119 z120 z121 z122 z123 z124 z125 z126) (f31.H3_r z118 z119 z120 z121 z122 z123 z124 z125 z126)
def f31.R3 {R:Type} (rec:KT R):=fun s78 s79 s80 s81 s82 s83 s84 s85 s86 s87 s88 s89 s90=>rec (f31.T3 s78 s79 s80 s81 s82 s83 s84 s85 s86 s87 s88 s89 s90) (f31.H3 s78 s79 s80 s81 s82 s83 s84 s85 s86 s87 s88 s89 s90)
theorem f31.s3_eq {R:Type} (L N m:Nat) (κ:KX R) (rec:KT R) (s78:LLI) (s79:Int) (s80:Int) (s81:Int) (s82:LLM) (s83:Int) (s84:Int) (s85:Int) (s86:Int) (s87:Int) (s88:Int) (s89:LT) (s90:LI):
  evRd (E31 L N m) (evCallI (E31 L N m) 1 2000) 1000 31 162 6 f31.c3 κ rec (f31.T3 s78 s79 s80 s81 s82 s83 s84 s85 s86 s87 s88 s89 s90) (f31.H3 s78 s79 s80 s81 s82 s83 s84 s85 s86 s87 s88 s89 s90)
  =f31.s3 L N (f31 L N m) (f31.X3_e6 κ) (f31.X3_r κ) (f31.R3 rec) s78 s79 s80 s81 s82 s83 s84 s85 s86 s87 s88 s89 s90:=by kernel_rfl
theorem f31.l3_eq {R:Type} (L N m:Nat) (κ:KX R):∀(n:Nat) (s78:LLI) (s79:Int) (s80:Int) (s81:Int) (s82:LLM) (s83:Int) (s84:Int) (s85:Int) (s86:Int) (s87:Int) (s88:Int) (s89:LT) (s90:LI),
  evLp (E31 L N m) (evCallI (E31 L N m) 1 2000) 1000 31 162 6 f31.c3 κ n (f31.T3 s78 s79 s80 s81 s82 s83 s84 s85 s86 s87 s88 s89 s90) (f31.H3 s78 s79 s80 s81 s82 s83 s84 s85 s86 s87 s88 s89 s90)
  =f31.l3 L N (f31 L N m) (f31.X3_e6 κ) (f31.X3_r κ) n s78 s79 s80 s81 s82 s83 s84 s85 s86 s87 s88 s89 s90:=by
 intro n
 induction n with
 |zero=>intros;rfl
 |succ n ih=>
  intro s78 s79 s80 s81 s82 s83 s84 s85 s86 s87 s88 s89 s90
  rw [evLp_succ,f31.s3_eq]
  delta f31.R3
  simp only [ih]
  rfl
def f31.X1_e2 {R:Type} (κ:KX R):=fun z24 z25 z26 z27 z28 z29=>κ (.exit 2) (f31.T1_e2 z24 z25 z26 z27 z28 z29) (f31.H1_e2 z24 z25 z26 z27 z28 z29)
def f31.X1_r {R:Type} (κ:KX R):=fun z157 z158 z159 z160=>κ .ret (f31.T1_r z157 z158 z159 z160) (f31.H1_r z157 z158 z159 z160)
def f31.R1 {R:Type} (rec:KT R):=fun s14 s15 s16 s17 s18 s19 s20 s21 s22 s23=>rec (f31.T1 s14 s15 s16 s17 s18 s19 s20 s21 s22 s23) (f31.H1 s14 s15 s16 s17 s18 s19 s20 s21 s22 s23)
theorem f31.p3_e6_eq {R:Type} (L N m:Nat) (κ:KX R) (rec:KT R) (z91:Int) (z92:Int) (z93:Int) (z94:Int) (z95:Int) (z96:Int) (z97:LT):
  (contAt (E31 L N m) (evCallI (E31 L N m) 1 2000) 1000 31 162 6 f31.c1 (rdK (E31 L N m) 1000 31 162 2 κ rec)) (.exit 6) (f31.T3_e6 z91 z92 z93 z94 z95 z96 z97) (f31.H3_e6 z91 z92 z93 z94 z95 z96 z97)
  =f31.p3_e6 L N (f31 L N m) (f31.X1_e2 κ) (f31.X1_r κ) (f31.R1 rec) z91 z92 z93 z94 z95 z96 z97:=by kernel_rfl
theorem f31.p3_r_eq {R:Type} (L N m:Nat) (κ:KX R) (rec:KT R) (z118:Bool) (z119:Int) (z120:Int) (z121:LT) (z122:Int) (z123:Int) (z124:Int) (z125:Int) (z126:LT):
  (contAt (E31 L N m) (evCallI (E31 L N m) 1 2000) 1000 31 162 6 f31.c1 (rdK (E31 L N m) 1000 31 162 2 κ rec)) .ret (f31.T3_r z118 z119 z120 z121 z122 z123 z124 z125 z126) (f31.H3_r z118 z119 z120 z121 z122 z123 z124 z125 z126)
  =f31.p3_r L N (f31 L N m) (f31.X1_e2 κ) (f31.X1_r κ) (f31.R1 rec) z118 z119 z120 z121 z122 z123 z124 z125 z126:=by kernel_rfl
theorem f31.p2_e4_eq {R:Type} (L N m:Nat) (κ:KX R) (rec:KT R) (z47:LLI) (z48:Int) (z49:Int) (z50:LI) (z51:Bool) (z52:LM) (z53:Int) (z54:Int) (z55:LLM) (z56:Int) (z57:Int) (z58:Int) (z59:Int) (z60:LI):
  (contAt (E31 L N m) (evCallI (E31 L N m) 1 2000) 1000 31 162 4 f31.c1 (rdK (E31 L N m) 1000 31 162 2 κ rec)) (.exit 4) (f31.T2_e4 z47 z48 z49 z50 z51 z52 z53 z54 z55 z56 z57 z58 z59 z60) (f31.H2_e4 z47 z48 z49 z50 z51 z52 z53 z54 z55 z56 z57 z58 z59 z60)
  =f31.p2_e4 L N (f31 L N m) (f31.X1_e2 κ) (f31.X1_r κ) (f31.R1 rec) z47 z48 z49 z50 z51 z52 z53 z54 z55 z56 z57 z58 z59 z60:=by
 refine Eq.trans (b:=f31.p2_e4' L N (f31 L N m) (f31.X1_e2 κ) (f31.X1_r κ) (f31.R1 rec) (fun s78 s79 s80 s81 s82 s83 s84 s85 s86 s87 s88 s89 s90=>evLp (E31 L N m) (evCallI (E31 L N m) 1 2000) 1000 31 162 6 f31.c3 (contAt (E31 L N m) (evCallI (E31 L N m) 1 2000) 1000 31 162 6 f31.c1 (rdK (E31 L N m) 1000 31 162 2 κ rec)) L (f31.T3 s78 s79 s80 s81 s82 s83 s84 s85 s86 s87 s88 s89 s90) (f31.H3 s78 s79 s80 s81 s82 s83 s84 s85 s86 s87 s88 s89 s90)) z47 z48 z49 z50 z51 z52 z53 z54 z55 z56 z57 z58 z59 z60) (by kernel_rfl) ?_
 unfold f31.p2_e4
 simp only [f31.l3_eq]
 delta f31.X3_e6 f31.X3_r
 simp only [f31.p3_e6_eq,f31.p3_r_eq]
theorem f31.s1_eq {R:Type} (L N m:Nat) (κ:KX R) (rec:KT R) (s14:LLI) (s15:Int) (s16:Int) (s17:LI) (s18:LM) (s19:Int) (s20:Int) (s21:LLM) (s22:Int) (s23:Int):
  evRd (E31 L N m) (evCallI (E31 L N m) 1 2000) 1000 31 162 2 f31.c1 κ rec (f31.T1 s14 s15 s16 s17 s18 s19 s20 s21 s22 s23) (f31.H1 s14 s15 s16 s17 s18 s19 s20 s21 s22 s23)
  =f31.s1 L N (f31 L N m) (f31.X1_e2 κ) (f31.X1_r κ) (f31.R1 rec) s14 s15 s16 s17 s18 s19 s20 s21 s22 s23:=by
 refine Eq.trans (b:=f31.s1' L N (f31 L N m) (f31.X1_e2 κ) (f31.X1_r κ) (f31.R1 rec) (fun s30 s31 s32 s33 s34 s35 s36 s37 s38 s39 s40 s41 s42 s43 s44 s45 s46=>evLp (E31 L N m) (evCallI (E31 L N m) 1 2000) 1000 31 162 4 f31.c2 (contAt (E31 L N m) (evCallI (E31 L N m) 1 2000) 1000 31 162 4 f31.c1 (rdK (E31 L N m) 1000 31 162 2 κ rec)) L (f31.T2 s30 s31 s32 s33 s34 s35 s36 s37 s38 s39 s40 s41 s42 s43 s44 s45 s46) (f31.H2 s30 s31 s32 s33 s34 s35 s36 s37 s38 s39 s40 s41 s42 s43 s44 s45 s46)) s14 s15 s16 s17 s18 s19 s20 s21 s22 s23) (by kernel_rfl) ?_
 unfold f31.s1
 simp only [f31.l2_eq]
 delta f31.X2_e4
 simp only [f31.p2_e4_eq]
theorem f31.l1_eq {R:Type} (L N m:Nat) (κ:KX R):∀(n:Nat) (s14:LLI) (s15:Int) (s16:Int) (s17:LI) (s18:LM) (s19:Int) (s20:Int) (s21:LLM) (s22:Int) (s23:Int),
  evLp (E31 L N m) (evCallI (E31 L N m) 1 2000) 1000 31 162 2 f31.c1 κ n (f31.T1 s14 s15 s16 s17 s18 s19 s20 s21 s22 s23) (f31.H1 s14 s15 s16 s17 s18 s19 s20 s21 s22 s23)
  =f31.l1 L N (f31 L N m) (f31.X1_e2 κ) (f31.X1_r κ) n s14 s15 s16 s17 s18 s19 s20 s21 s22 s23:=by
 intro n
 induction n with
 |zero=>intros;rfl
 |succ n ih=>
  intro s14 s15 s16 s17 s18 s19 s20 s21 s22 s23
  rw [evLp_succ,f31.s1_eq]
  delta f31.R1
  simp only [ih]
  rfl
theorem f31.p1_e2_eq {R:Type} (L N m:Nat) (κ:AV→Option R) (z24:LLI) (z25:Int) (z26:Int) (z27:LLM) (z28:Int) (z29:Int):
  (contAt (E31 L N m) (evCallI (E31 L N m) 1 2000) 1000 31 162 2 (codeOf Tryz.f31) (finK (E31 L N m) 1000 Tryz.f31 (finC (.many [(.st 1),.bool]) κ))) (.exit 2) (f31.T1_e2 z24 z25 z26 z27 z28 z29) (f31.H1_e2 z24 z25 z26 z27 z28 z29)
  =f31.p1_e2 L N (f31 L N m) (fun a0 a1=>κ (.tup [(.tv (.st 1) a0),(.tv .bool a1)])) z24 z25 z26 z27 z28 z29:=by kernel_rfl
theorem f31.p1_r_eq {R:Type} (L N m:Nat) (κ:AV→Option R) (z157:Bool) (z158:Int) (z159:Int) (z160:LT):
  (contAt (E31 L N m) (evCallI (E31 L N m) 1 2000) 1000 31 162 2 (codeOf Tryz.f31) (finK (E31 L N m) 1000 Tryz.f31 (finC (.many [(.st 1),.bool]) κ))) .ret (f31.T1_r z157 z158 z159 z160) (f31.H1_r z157 z158 z159 z160)
  =f31.p1_r L N (f31 L N m) (fun a0 a1=>κ (.tup [(.tv (.st 1) a0),(.tv .bool a1)])) z157 z158 z159 z160:=by kernel_rfl
theorem f31.p0_e0_eq {R:Type} (L N m:Nat) (κ:AV→Option R) (z7:LLI) (z8:Int) (z9:Int) (z10:Int) (z11:LLM) (z12:Int) (z13:Int):
  (contAt (E31 L N m) (evCallI (E31 L N m) 1 2000) 1000 31 162 0 (codeOf Tryz.f31) (finK (E31 L N m) 1000 Tryz.f31 (finC (.many [(.st 1),.bool]) κ))) (.exit 0) (f31.T0_e0 z7 z8 z9 z10 z11 z12 z13) (f31.H0_e0 z7 z8 z9 z10 z11 z12 z13)
  =f31.p0_e0 L N (f31 L N m) (fun a0 a1=>κ (.tup [(.tv (.st 1) a0),(.tv .bool a1)])) z7 z8 z9 z10 z11 z12 z13:=by
 refine Eq.trans (b:=f31.p0_e0' L N (f31 L N m) (fun a0 a1=>κ (.tup [(.tv (.st 1) a0),(.tv .bool a1)])) (fun s14 s15 s16 s17 s18 s19 s20 s21 s22 s23=>evLp (E31 L N m) (evCallI (E31 L N m) 1 2000) 1000 31 162 2 f31.c1 (contAt (E31 L N m) (evCallI (E31 L N m) 1 2000) 1000 31 162 2 (codeOf Tryz.f31) (finK (E31 L N m) 1000 Tryz.f31 (finC (.many [(.st 1),.bool]) κ))) L (f31.T1 s14 s15 s16 s17 s18 s19 s20 s21 s22 s23) (f31.H1 s14 s15 s16 s17 s18 s19 s20 s21 s22 s23)) z7 z8 z9 z10 z11 z12 z13) (by kernel_rfl) ?_
 unfold f31.p0_e0
 simp only [f31.l1_eq]
 delta f31.X1_e2 f31.X1_r
 simp only [f31.p1_e2_eq,f31.p1_r_eq]
theorem f31.b_eq {R:Type} (L N m:Nat) (κ:AV→Option R) (x0:Graph) (x1:LLI) (x2:Int) (x3:Int):
  evBody (E31 L N m) (evCallI (E31 L N m) 1 2000) 1000 31 Tryz.f31 [(.tv (.st 2) x0),(.tv (.sl (.sl i64)) x1),(.tv i64 x2),(.tv i64 x3)] [] [] (finC (.many [(.st 1),.bool]) κ)
  =f31.b L N (f31 L N m) (fun a0 a1=>κ (.tup [(.tv (.st 1) a0),(.tv .bool a1)])) x0 x1 x2 x3:=by
 refine Eq.trans (b:=f31.b' L N (f31 L N m) (fun a0 a1=>κ (.tup [(.tv (.st 1) a0),(.tv .bool a1)])) (fun s0 s1 s2 s3 s4 s5 s6=>evLp (E31 L N m) (evCallI (E31 L N m) 1 2000) 1000 31 162 0 f31.c0 (contAt (E31 L N m) (evCallI (E31 L N m) 1 2000) 1000 31 162 0 (codeOf Tryz.f31) (finK (E31 L N m) 1000 Tryz.f31 (finC (.many [(.st 1),.bool]) κ))) L (f31.T0 s0 s1 s2 s3 s4 s5 s6) (f31.H0 s0 s1 s2 s3 s4 s5 s6)) x0 x1 x2 x3) (by kernel_rfl) ?_
 unfold f31.b
 simp only [f31.l0_eq]
 delta f31.X0_e0
 simp only [f31.p0_e0_eq]
theorem f31.ok (L N m:Nat) (hΦ:TellsOk Tryz.prog (Φ31s L N m)):EntOk Tryz.prog 31 (f31.ent L N (m+1)):=entDa_ok (E:=(E31 L N m)) (dep:=1000) (f:=Tryz.f31) (sound_of hΦ) okP (callI_sound (sound_of hΦ) okP 1 2000) rfl fun d _ hy=>(f31.b_eq L N m (unR (.many [(.st 1),.bool])) d.1 d.2.1 d.2.2.1 d.2.2.2.1).trans (Eq.trans (b:=f31.b L N (f31 L N m) (fun a0 a1=>some (a0,a1)) d.1 d.2.1 d.2.2.1 d.2.2.2.1) (by kernel_rfl) hy)
theorem Φ31s_ok (L N:Nat):∀m,TellsOk Tryz.prog (Φ31s L N m):=by
 intro m
 induction m with
 |zero=>exact (addT_ok (Φ52_ok L N) (entDa_no fun _=>rfl))
 |succ m ih=>exact (addT_ok (Φ52_ok L N) (f31.ok L N m ih))
def Φ31 (L N:Nat):Tells:=(addT (Φ52 L N) 31 (f31.ent L N N))
theorem Φ31_ok (L N:Nat):TellsOk Tryz.prog (Φ31 L N):=Φ31s_ok L N N
def f11.j0' {R:Type} (L N:Nat) (k:Tree→Bool→Option R) (v7:Int) (v8:Int) (v9:LLM) (v10:Int) (v11:Int):Option R:=
 (f30 L N (Graph.mk v9)).bind fun y12=>
 bif (decide (0≤(wi ((y12.length:Int)-(1:Int))))&&decide ((wi ((y12.length:Int)-(1:Int)))<(y12.length:Int))) then
  bif (decide (0≤v7)&&decide (v7<((listAt y12 [] (wi ((y12.length:Int)-(1:Int))).toNat).length:Int))) then
   bif (decide (0≤v8)&&decide (v8<((listAt y12 [] (wi ((y12.length:Int)-(1:Int))).toNat).length:Int))) then
    bif ((listAt (listAt y12 [] (wi ((y12.length:Int)-(1:Int))).toNat) (0:Int) v7.toNat)==(listAt (listAt y12 [] (wi ((y12.length:Int)-(1:Int))).toNat) (0:Int) v8.toNat)) then
     k (Tree.mk (0:Int) (0:Int) []) false
    else (f31 L N N (Graph.mk v9) y12 v7 v8).bind fun y13=>
    bif (!y13.2) then
     k (Tree.mk (0:Int) (0:Int) []) false
    else k (Tree.mk ((Tree.mk y13.1.op y13.1.n y13.1.parts).op) ((Tree.mk y13.1.op y13.1.n y13.1.parts).n) ((Tree.mk y13.1.op y13.1.n y13.1.parts).parts)) true
   else none
  else none
 else none
def f11.b' {R:Type} (L N:Nat) (k:Tree→Bool→Option R) (x0:Graph) (x1:Int) (x2:Int):Option R:=
 (f6 L N (Graph.mk x0.moves)).bind fun y0=>
 bif (!y0) then
  k (Tree.mk (0:Int) (0:Int) []) false
 else bif (decide (x1<(0:Int))) then
  k (Tree.mk (0:Int) (0:Int) []) false
 else bif (decide (x1≥(x0.moves.length:Int))) then
  k (Tree.mk (0:Int) (0:Int) []) false
 else bif (decide (x2<(0:Int))) then
  k (Tree.mk (0:Int) (0:Int) []) false
 else bif (decide (x2≥(x0.moves.length:Int))) then
  k (Tree.mk (0:Int) (0:Int) []) false
 else f11.j0' L N k x1 x2 x0.moves (0:Int) (0:Int)
def f11.b {R:Type} (L N:Nat) (k:Tree→Bool→Option R) (x0:Graph) (x1:Int) (x2:Int):Option R:=
 f11.b' L N k x0 x1 x2
def f11 (L N:Nat) (x0:Graph) (x1:Int) (x2:Int):Option (Tree×Bool):=f11.b L N (fun a0 a1=>some (a0,a1)) x0 x1 x2
def f11.ent (L N:Nat):=entDa [(.st 2),i64,i64] (.many [(.st 1),.bool]) fun d=>f11 L N d.1 d.2.1 d.2.2.1
noncomputable def E11 (L N:Nat):Env:={P:=Tryz.prog,ty:=tyOf,Φ:=(Φ31 L N),inl:=inlT,live:=lives,liveX:=livesX,L:=L,dp:=none,prom:=promT,heal:=healT,ren:=renT}
theorem f11.b_eq {R:Type} (L N:Nat) (κ:AV→Option R) (x0:Graph) (x1:Int) (x2:Int):
  evBody (E11 L N) (evCallI (E11 L N) 1 2000) 1000 11 Tryz.f11 [(.tv (.st 2) x0),(.tv i64 x1),(.tv i64 x2)] [] [] (finC (.many [(.st 1),.bool]) κ)
  =f11.b L N (fun a0 a1=>κ (.tup [(.tv (.st 1) a0),(.tv .bool a1)])) x0 x1 x2:=by kernel_rfl
theorem f11.ok (L N:Nat) (hΦ:TellsOk Tryz.prog ((Φ31 L N))):EntOk Tryz.prog 11 (f11.ent L N):=entDa_ok (E:=(E11 L N)) (dep:=1000) (f:=Tryz.f11) (sound_of hΦ) okP (callI_sound (sound_of hΦ) okP 1 2000) rfl fun d _ hy=>(f11.b_eq L N (unR (.many [(.st 1),.bool])) d.1 d.2.1 d.2.2.1).trans (Eq.trans (b:=f11.b L N (fun a0 a1=>some (a0,a1)) d.1 d.2.1 d.2.2.1) (by kernel_rfl) hy)
def Φ11 (L N:Nat):Tells:=(addT (Φ31 L N) 11 (f11.ent L N))
theorem Φ11_ok (L N:Nat):TellsOk Tryz.prog (Φ11 L N):=addT_ok (Φ31_ok L N) (f11.ok L N (Φ31_ok L N))
def f34.j0' {R:Type} (L N:Nat) (k1_e2:LI→Int→Int→LLM→LM→(List (Int×Bool))→LI→Option R) (rec1:LI→Int→Int→LM→Int→Int→LLM→LM→(List (Int×Bool))→LI→Option R) (v25:LI) (v26:Int) (v27:Int) (v28:LM) (v29:Int) (v30:Int) (v31:Bool) (v32:LLM) (v33:Int) (v34:Int) (v35:LM) (v36:(List (Int×Bool))) (v37:LI):Option R:=
 bif v31 then
  bif (decide (0≤v34)&&decide (v34<(v25.length:Int))) then
   bif (decide (v35.length+([(Move.mk v33 (listAt v25 (0:Int) v34.toNat))]:LM).length≤lim)) then
    rec1 v25 v26 v27 v28 v29 (wi (v30+(1:Int))) v32 (v35++([(Move.mk v33 (listAt v25 (0:Int) v34.toNat))]:LM)) v36 v37
   else none
  else none
 else bif (!((mapFind i64 .bool v34 v36).getD (Ty.dflt .bool))) then
  bif (decide (v37.length+([v34]:LI).length≤lim)) then
   rec1 v25 v26 v27 v28 v29 (wi (v30+(1:Int))) v32 v35 (mapPut i64 .bool v34 true v36) (v37++([v34]:LI))
  else none
 else rec1 v25 v26 v27 v28 v29 (wi (v30+(1:Int))) v32 v35 v36 v37
def f34.s1' {R:Type} (L N:Nat) (k1_e2:LI→Int→Int→LLM→LM→(List (Int×Bool))→LI→Option R) (rec1:LI→Int→Int→LM→Int→Int→LLM→LM→(List (Int×Bool))→LI→Option R) (s8:LI) (s9:Int) (s10:Int) (s11:LM) (s12:Int) (s13:Int) (s14:LLM) (s15:LM) (s16:(List (Int×Bool))) (s17:LI):Option R:=
 bif (decide (s13<s12)) then
  bif (decide (0≤s13)&&decide (s13<(s11.length:Int))) then
   bif ((listAt s11 (Ty.dflt (.st 0)) s13.toNat).act !=(0:Int)) then
    f34.j0' L N k1_e2 rec1 s8 s9 s10 s11 s12 s13 true s14 ((listAt s11 (Ty.dflt (.st 0)) s13.toNat).act) ((listAt s11 (Ty.dflt (.st 0)) s13.toNat).to) s15 s16 s17
   else bif (decide (0≤(listAt s11 (Ty.dflt (.st 0)) s13.toNat).to)&&decide ((listAt s11 (Ty.dflt (.st 0)) s13.toNat).to<(s8.length:Int))) then
    bif (decide (0≤s9)&&decide (s9<(s8.length:Int))) then
     f34.j0' L N k1_e2 rec1 s8 s9 s10 s11 s12 s13 ((listAt s8 (0:Int) ((listAt s11 (Ty.dflt (.st 0)) s13.toNat).to).toNat) !=(listAt s8 (0:Int) s9.toNat)) s14 ((listAt s11 (Ty.dflt (.st 0)) s13.toNat).act) ((listAt s11 (Ty.dflt (.st 0)) s13.toNat).to) s15 s16 s17
    else none
   else none
  else none
 else k1_e2 s8 s9 s10 s14 s15 s16 s17
def f34.s1 {R:Type} (L N:Nat) (k1_e2:LI→Int→Int→LLM→LM→(List (Int×Bool))→LI→Option R) (rec1:LI→Int→Int→LM→Int→Int→LLM→LM→(List (Int×Bool))→LI→Option R) (s8:LI) (s9:Int) (s10:Int) (s11:LM) (s12:Int) (s13:Int) (s14:LLM) (s15:LM) (s16:(List (Int×Bool))) (s17:LI):Option R:=
 f34.s1' L N k1_e2 rec1 s8 s9 s10 s11 s12 s13 s14 s15 s16 s17
def f34.l1 {R:Type} (L N:Nat) (k1_e2:LI→Int→Int→LLM→LM→(List (Int×Bool))→LI→Option R):Nat→LI→Int→Int→LM→Int→Int→LLM→LM→(List (Int×Bool))→LI→Option R
 |0,_,_,_,_,_,_,_,_,_,_=>none
 |n+1,s8,s9,s10,s11,s12,s13,s14,s15,s16,s17=>f34.s1 L N k1_e2 (f34.l1 L N k1_e2 n) s8 s9 s10 s11 s12 s13 s14 s15 s16 s17
def f34.T1 (s8:LI) (s9:Int) (s10:Int) (s11:LM) (s12:Int) (s13:Int) (s14:LLM) (s15:LM) (s16:(List (Int×Bool))) (s17:LI):T:=mkT 80 [(1,(.tv (.sl i64) s8)),(2,(.tv i64 s9)),(3,(.ptr 1003 0)),(7,(.row 1013)),(8,(.mp 1014)),(9,(.row 1018)),(10,(.tv i64 s10)),(32,(.tv (.sl (.st 0)) s11)),(33,(.tv i64 s12)),(34,(.tv i64 s13))]
def f34.H1 (s8:LI) (s9:Int) (s10:Int) (s11:LM) (s12:Int) (s13:Int) (s14:LLM) (s15:LM) (s16:(List (Int×Bool))) (s17:LI):H:=[(1003,(.box [(.tv (.sl (.sl (.st 0))) s14)])),(1013,(.row 45 (.st 0) s15)),(1014,(.map i64 .bool s16)),(1018,(.row 3 i64 s17))]
def f34.T1_e2 (z18:LI) (z19:Int) (z20:Int) (z21:LLM) (z22:LM) (z23:(List (Int×Bool))) (z24:LI):T:=mkT 80 [(1,(.tv (.sl i64) z18)),(2,(.tv i64 z19)),(3,(.ptr 1003 0)),(7,(.row 1013)),(8,(.mp 1014)),(9,(.row 1018)),(10,(.tv i64 z20))]
def f34.H1_e2 (z18:LI) (z19:Int) (z20:Int) (z21:LLM) (z22:LM) (z23:(List (Int×Bool))) (z24:LI):H:=[(1003,(.box [(.tv (.sl (.sl (.st 0))) z21)])),(1013,(.row 45 (.st 0) z22)),(1014,(.map i64 .bool z23)),(1018,(.row 3 i64 z24))]
def f34.p1_e2' {R:Type} (L N:Nat) (k0_e0:LM→Option R) (rec0:LI→Int→Int→LLM→LM→(List (Int×Bool))→LI→Option R) (z18:LI) (z19:Int) (z20:Int) (z21:LLM) (z22:LM) (z23:(List (Int×Bool))) (z24:LI):Option R:=
 rec0 z18 z19 (wi (z20+(1:Int))) z21 z22 z23 z24
def f34.p1_e2 {R:Type} (L N:Nat) (k0_e0:LM→Option R) (rec0:LI→Int→Int→LLM→LM→(List (Int×Bool))→LI→Option R) (z18:LI) (z19:Int) (z20:Int) (z21:LLM) (z22:LM) (z23:(List (Int×Bool))) (z24:LI):Option R:=
 f34.p1_e2' L N k0_e0 rec0 z18 z19 z20 z21 z22 z23 z24
def f34.s0' {R:Type} (L N:Nat) (k0_e0:LM→Option R) (rec0:LI→Int→Int→LLM→LM→(List (Int×Bool))→LI→Option R) (w1:LI→Int→Int→LM→Int→Int→LLM→LM→(List (Int×Bool))→LI→Option R) (s0:LI) (s1:Int) (s2:Int) (s3:LLM) (s4:LM) (s5:(List (Int×Bool))) (s6:LI):Option R:=
 bif (decide (s2<(s6.length:Int))) then
  bif (decide (0≤s2)&&decide (s2<(s6.length:Int))) then
   bif (decide (0≤(listAt s6 (0:Int) s2.toNat))&&decide ((listAt s6 (0:Int) s2.toNat)<(s3.length:Int))) then
    w1 s0 s1 s2 (listAt s3 [] (listAt s6 (0:Int) s2.toNat).toNat) ((listAt s3 [] (listAt s6 (0:Int) s2.toNat).toNat).length:Int) (0:Int) s3 s4 s5 s6
   else none
  else none
 else k0_e0 s4
def f34.s0 {R:Type} (L N:Nat) (k0_e0:LM→Option R) (rec0:LI→Int→Int→LLM→LM→(List (Int×Bool))→LI→Option R) (s0:LI) (s1:Int) (s2:Int) (s3:LLM) (s4:LM) (s5:(List (Int×Bool))) (s6:LI):Option R:=
 f34.s0' L N k0_e0 rec0 (fun s8 s9 s10 s11 s12 s13 s14 s15 s16 s17=>f34.l1 L N (fun z18 z19 z20 z21 z22 z23 z24=>f34.p1_e2 L N k0_e0 rec0 z18 z19 z20 z21 z22 z23 z24) L s8 s9 s10 s11 s12 s13 s14 s15 s16 s17) s0 s1 s2 s3 s4 s5 s6
def f34.l0 {R:Type} (L N:Nat) (k0_e0:LM→Option R):Nat→LI→Int→Int→LLM→LM→(List (Int×Bool))→LI→Option R
 |0,_,_,_,_,_,_,_=>none
 |n+1,s0,s1,s2,s3,s4,s5,s6=>f34.s0 L N k0_e0 (f34.l0 L N k0_e0 n) s0 s1 s2 s3 s4 s5 s6
def f34.T0 (s0:LI) (s1:Int) (s2:Int) (s3:LLM) (s4:LM) (s5:(List (Int×Bool))) (s6:LI):T:=mkT 80 [(1,(.tv (.sl i64) s0)),(2,(.tv i64 s1)),(3,(.ptr 1003 0)),(7,(.row 1013)),(8,(.mp 1014)),(9,(.row 1018)),(10,(.tv i64 s2))]
def f34.H0 (s0:LI) (s1:Int) (s2:Int) (s3:LLM) (s4:LM) (s5:(List (Int×Bool))) (s6:LI):H:=[(1003,(.box [(.tv (.sl (.sl (.st 0))) s3)])),(1013,(.row 45 (.st 0) s4)),(1014,(.map i64 .bool s5)),(1018,(.row 3 i64 s6))]
def f34.T0_e0 (z7:LM):T:=mkT 80 [(7,(.row 1013))]
def f34.H0_e0 (z7:LM):H:=[(1013,(.row 45 (.st 0) z7))]
def f34.p0_e0' {R:Type} (L N:Nat) (k:LM→Option R) (z7:LM):Option R:=
 ((fsortM z7)).bind fun y48=>
 k (tidyM z7)
def f34.p0_e0 {R:Type} (L N:Nat) (k:LM→Option R) (z7:LM):Option R:=
 f34.p0_e0' L N k z7
def f34.b' {R:Type} (L N:Nat) (k:LM→Option R) (w0:LI→Int→Int→LLM→LM→(List (Int×Bool))→LI→Option R) (x0:Graph) (x1:LI) (x2:Int):Option R:=
 w0 x1 x2 (0:Int) x0.moves ([]:LM) (mapPut i64 .bool x2 true ([]:(List (Int×Bool)))) ([x2]:LI)
def f34.b {R:Type} (L N:Nat) (k:LM→Option R) (x0:Graph) (x1:LI) (x2:Int):Option R:=
 f34.b' L N k (fun s0 s1 s2 s3 s4 s5 s6=>f34.l0 L N (fun z7=>f34.p0_e0 L N k z7) L s0 s1 s2 s3 s4 s5 s6) x0 x1 x2
def f34 (L N:Nat) (x0:Graph) (x1:LI) (x2:Int):Option (LM):=f34.b L N some x0 x1 x2
def f34.ent (L N:Nat):=entDa [(.st 2),(.sl i64),i64] (.one (.sl (.st 0))) fun d=>f34 L N d.1 d.2.1 d.2.2.1
noncomputable def E34 (L N:Nat):Env:={P:=Tryz.prog,ty:=tyOf,Φ:=(Φ11 L N),inl:=inlT,live:=lives,liveX:=livesX,L:=L,dp:=none,prom:=promT,heal:=healT,ren:=renT}
noncomputable def f34.c0:Code:=loopAt 0 (codeOf Tryz.f34)
noncomputable def f34.c1:Code:=loopAt 2 f34.c0
def f34.X1_e2 {R:Type} (κ:KX R):=fun z18 z19 z20 z21 z22 z23 z24=>κ (.exit 2) (f34.T1_e2 z18 z19 z20 z21 z22 z23 z24) (f34.H1_e2 z18 z19 z20 z21 z22 z23 z24)
def f34.R1 {R:Type} (rec:KT R):=fun s8 s9 s10 s11 s12 s13 s14 s15 s16 s17=>rec (f34.T1 s8 s9 s10 s11 s12 s13 s14 s15 s16 s17) (f34.H1 s8 s9 s10 s11 s12 s13 s14 s15 s16 s17)
theorem f34.s1_eq {R:Type} (L N:Nat) (κ:KX R) (rec:KT R) (s8:LI) (s9:Int) (s10:Int) (s11:LM) (s12:Int) (s13:Int) (s14:LLM) (s15:LM) (s16:(List (Int×Bool))) (s17:LI):
  evRd (E34 L N) (evCallI (E34 L N) 1 2000) 1000 34 80 2 f34.c1 κ rec (f34.T1 s8 s9 s10 s11 s12 s13 s14 s15 s16 s17) (f34.H1 s8 s9 s10 s11 s12 s13 s14 s15 s16 s17)
  =f34.s1 L N (f34.X1_e2 κ) (f34.R1 rec) s8 s9 s10 s11 s12 s13 s14 s15 s16 s17:=by kernel_rfl
theorem f34.l1_eq {R:Type} (L N:Nat) (κ:KX R):∀(n:Nat) (s8:LI) (s9:Int) (s10:Int) (s11:LM) (s12:Int) (s13:Int) (s14:LLM) (s15:LM) (s16:(List (Int×Bool))) (s17:LI),
  evLp (E34 L N) (evCallI (E34 L N) 1 2000) 1000 34 80 2 f34.c1 κ n (f34.T1 s8 s9 s10 s11 s12 s13 s14 s15 s16 s17) (f34.H1 s8 s9 s10 s11 s12 s13 s14 s15 s16 s17)
  =f34.l1 L N (f34.X1_e2 κ) n s8 s9 s10 s11 s12 s13 s14 s15 s16 s17:=by
 intro n
 induction n with
 |zero=>intros;rfl
 |succ n ih=>
  intro s8 s9 s10 s11 s12 s13 s14 s15 s16 s17
  rw [evLp_succ,f34.s1_eq]
  delta f34.R1
  simp only [ih]
  rfl
def f34.X0_e0 {R:Type} (κ:KX R):=fun z7=>κ (.exit 0) (f34.T0_e0 z7) (f34.H0_e0 z7)
def f34.R0 {R:Type} (rec:KT R):=fun s0 s1 s2 s3 s4 s5 s6=>rec (f34.T0 s0 s1 s2 s3 s4 s5 s6) (f34.H0 s0 s1 s2 s3 s4 s5 s6)
theorem f34.p1_e2_eq {R:Type} (L N:Nat) (κ:KX R) (rec:KT R) (z18:LI) (z19:Int) (z20:Int) (z21:LLM) (z22:LM) (z23:(List (Int×Bool))) (z24:LI):
  (contAt (E34 L N) (evCallI (E34 L N) 1 2000) 1000 34 80 2 f34.c0 (rdK (E34 L N) 1000 34 80 0 κ rec)) (.exit 2) (f34.T1_e2 z18 z19 z20 z21 z22 z23 z24) (f34.H1_e2 z18 z19 z20 z21 z22 z23 z24)
  =f34.p1_e2 L N (f34.X0_e0 κ) (f34.R0 rec) z18 z19 z20 z21 z22 z23 z24:=by kernel_rfl
theorem f34.s0_eq {R:Type} (L N:Nat) (κ:KX R) (rec:KT R) (s0:LI) (s1:Int) (s2:Int) (s3:LLM) (s4:LM) (s5:(List (Int×Bool))) (s6:LI):
  evRd (E34 L N) (evCallI (E34 L N) 1 2000) 1000 34 80 0 f34.c0 κ rec (f34.T0 s0 s1 s2 s3 s4 s5 s6) (f34.H0 s0 s1 s2 s3 s4 s5 s6)
  =f34.s0 L N (f34.X0_e0 κ) (f34.R0 rec) s0 s1 s2 s3 s4 s5 s6:=by
 refine Eq.trans (b:=f34.s0' L N (f34.X0_e0 κ) (f34.R0 rec) (fun s8 s9 s10 s11 s12 s13 s14 s15 s16 s17=>evLp (E34 L N) (evCallI (E34 L N) 1 2000) 1000 34 80 2 f34.c1 (contAt (E34 L N) (evCallI (E34 L N) 1 2000) 1000 34 80 2 f34.c0 (rdK (E34 L N) 1000 34 80 0 κ rec)) L (f34.T1 s8 s9 s10 s11 s12 s13 s14 s15 s16 s17) (f34.H1 s8 s9 s10 s11 s12 s13 s14 s15 s16 s17)) s0 s1 s2 s3 s4 s5 s6) (by kernel_rfl) ?_
 unfold f34.s0
 simp only [f34.l1_eq]
 delta f34.X1_e2
 simp only [f34.p1_e2_eq]
theorem f34.l0_eq {R:Type} (L N:Nat) (κ:KX R):∀(n:Nat) (s0:LI) (s1:Int) (s2:Int) (s3:LLM) (s4:LM) (s5:(List (Int×Bool))) (s6:LI),
  evLp (E34 L N) (evCallI (E34 L N) 1 2000) 1000 34 80 0 f34.c0 κ n (f34.T0 s0 s1 s2 s3 s4 s5 s6) (f34.H0 s0 s1 s2 s3 s4 s5 s6)
  =f34.l0 L N (f34.X0_e0 κ) n s0 s1 s2 s3 s4 s5 s6:=by
 intro n
 induction n with
 |zero=>intros;rfl
 |succ n ih=>
  intro s0 s1 s2 s3 s4 s5 s6
  rw [evLp_succ,f34.s0_eq]
  delta f34.R0
  simp only [ih]
  rfl
theorem f34.p0_e0_eq {R:Type} (L N:Nat) (κ:AV→Option R) (z7:LM):
  (contAt (E34 L N) (evCallI (E34 L N) 1 2000) 1000 34 80 0 (codeOf Tryz.f34) (finK (E34 L N) 1000 Tryz.f34 (finC (.one (.sl (.st 0))) κ))) (.exit 0) (f34.T0_e0 z7) (f34.H0_e0 z7)
  =f34.p0_e0 L N (fun a0=>κ (.tv (.sl (.st 0)) a0)) z7:=by kernel_rfl
theorem f34.b_eq {R:Type} (L N:Nat) (κ:AV→Option R) (x0:Graph) (x1:LI) (x2:Int):
  evBody (E34 L N) (evCallI (E34 L N) 1 2000) 1000 34 Tryz.f34 [(.tv (.st 2) x0),(.tv (.sl i64) x1),(.tv i64 x2)] [] [] (finC (.one (.sl (.st 0))) κ)
  =f34.b L N (fun a0=>κ (.tv (.sl (.st 0)) a0)) x0 x1 x2:=by
 refine Eq.trans (b:=f34.b' L N (fun a0=>κ (.tv (.sl (.st 0)) a0)) (fun s0 s1 s2 s3 s4 s5 s6=>evLp (E34 L N) (evCallI (E34 L N) 1 2000) 1000 34 80 0 f34.c0 (contAt (E34 L N) (evCallI (E34 L N) 1 2000) 1000 34 80 0 (codeOf Tryz.f34) (finK (E34 L N) 1000 Tryz.f34 (finC (.one (.sl (.st 0))) κ))) L (f34.T0 s0 s1 s2 s3 s4 s5 s6) (f34.H0 s0 s1 s2 s3 s4 s5 s6)) x0 x1 x2) (by kernel_rfl) ?_
 unfold f34.b
 simp only [f34.l0_eq]
 delta f34.X0_e0
 simp only [f34.p0_e0_eq]
theorem f34.ok (L N:Nat) (hΦ:TellsOk Tryz.prog ((Φ11 L N))):EntOk Tryz.prog 34 (f34.ent L N):=entDa_ok (E:=(E34 L N)) (dep:=1000) (f:=Tryz.f34) (sound_of hΦ) okP (callI_sound (sound_of hΦ) okP 1 2000) rfl fun d _ hy=>(f34.b_eq L N (unR (.one (.sl (.st 0)))) d.1 d.2.1 d.2.2.1).trans (Eq.trans (b:=f34.b L N some d.1 d.2.1 d.2.2.1) (by kernel_rfl) hy)
def Φ34 (L N:Nat):Tells:=(addT (Φ11 L N) 34 (f34.ent L N))
theorem Φ34_ok (L N:Nat):TellsOk Tryz.prog (Φ34 L N):=addT_ok (Φ11_ok L N) (f34.ok L N (Φ11_ok L N))
def f33_1.b' {R:Type} (L N:Nat) (k:LM→Option R) (x0:LI) (x1:Int) (x2:LLM):Option R:=
 (f34 L N (Graph.mk x2) x0 x1).bind fun y0=>
 k y0
def f33_1.b {R:Type} (L N:Nat) (k:LM→Option R) (x0:LI) (x1:Int) (x2:LLM):Option R:=
 f33_1.b' L N k x0 x1 x2
def f33_1 (L N:Nat) (x0:LI) (x1:Int) (x2:LLM):Option (LM):=f33_1.b L N some x0 x1 x2
def f33_1.ent (L N:Nat):=entDf [(.dat (.sl i64)),(.dat i64),(.imp (.sl (.sl (.st 0))) 0)] (.one (.sl (.st 0))) fun d=>f33_1 L N d.1 d.2.1 d.2.2.1
noncomputable def E33_1 (L N:Nat):Env:={P:=Tryz.prog,ty:=tyOf,Φ:=(Φ34 L N),inl:=inlT,live:=lives,liveX:=livesX,L:=L,dp:=none,prom:=promT,heal:=healT,ren:=renT}
theorem f33_1.b_eq {R:Type} (L N:Nat) (κ:AV→Option R) (x0:LI) (x1:Int) (x2:LLM):
  evBody (E33_1 L N) (evCallI (E33_1 L N) 1 2000) 1000 33 Tryz.f33 [(.tv (.sl i64) x0),(.tv i64 x1),(.imp (.sl (.sl (.st 0))) x2 0)] [] [] (finC (.one (.sl (.st 0))) κ)
  =f33_1.b L N (fun a0=>κ (.tv (.sl (.st 0)) a0)) x0 x1 x2:=by kernel_rfl
theorem f33_1.ok (L N:Nat) (hΦ:TellsOk Tryz.prog ((Φ34 L N))):EntOkO Tryz.prog 33 (f33_1.ent L N):=entDf_ok (E:=(E33_1 L N)) (dep:=1000) (f:=Tryz.f33) (sound_of hΦ) okP (callI_sound (sound_of hΦ) okP 1 2000) rfl fun d _ hy=>(f33_1.b_eq L N (unR (.one (.sl (.st 0)))) d.1 d.2.1 d.2.2.1).trans (Eq.trans (b:=f33_1.b L N some d.1 d.2.1 d.2.2.1) (by kernel_rfl) hy)
def Φ33_1 (L N:Nat):Tells:=(addO (Φ34 L N) 33 (f33_1.ent L N))
theorem Φ33_1_ok (L N:Nat):TellsOk Tryz.prog (Φ33_1 L N):=addO_ok (Φ34_ok L N) (f33_1.ok L N (Φ34_ok L N))
def f54_2.b' {R:Type} (L N:Nat) (k:LM→Option R) (x0:Int) (x1:LLM) (x2:LI):Option R:=
 (f33_1 L N x2 x0 x1).bind fun y0=>
 k y0
def f54_2.b {R:Type} (L N:Nat) (k:LM→Option R) (x0:Int) (x1:LLM) (x2:LI):Option R:=
 f54_2.b' L N k x0 x1 x2
def f54_2 (L N:Nat) (x0:Int) (x1:LLM) (x2:LI):Option (LM):=f54_2.b L N some x0 x1 x2
def f54_2.ent (L N:Nat):=entDf [(.dat i64),(.pfn 33 [(.imp (.sl (.sl (.st 0))) 0)]),(.imp (.sl i64) 0)] (.one (.sl (.st 0))) fun d=>f54_2 L N d.1 d.2.1.1 d.2.2.1
noncomputable def E54_2 (L N:Nat):Env:={P:=Tryz.prog,ty:=tyOf,Φ:=(Φ33_1 L N),inl:=inlT,live:=lives,liveX:=livesX,L:=L,dp:=none,prom:=promT,heal:=healT,ren:=renT}
theorem f54_2.b_eq {R:Type} (L N:Nat) (κ:AV→Option R) (x0:Int) (x1:LLM) (x2:LI):
  evBody (E54_2 L N) (evCallI (E54_2 L N) 1 2000) 1000 54 Tryz.f54 [(.tv i64 x0),(.imf 33 [(.imp (.sl (.sl (.st 0))) x1 0)]),(.imp (.sl i64) x2 0)] [] [] (finC (.one (.sl (.st 0))) κ)
  =f54_2.b L N (fun a0=>κ (.tv (.sl (.st 0)) a0)) x0 x1 x2:=by kernel_rfl
theorem f54_2.ok (L N:Nat) (hΦ:TellsOk Tryz.prog ((Φ33_1 L N))):EntOkO Tryz.prog 54 (f54_2.ent L N):=entDf_ok (E:=(E54_2 L N)) (dep:=1000) (f:=Tryz.f54) (sound_of hΦ) okP (callI_sound (sound_of hΦ) okP 1 2000) rfl fun d _ hy=>(f54_2.b_eq L N (unR (.one (.sl (.st 0)))) d.1 d.2.1.1 d.2.2.1).trans (Eq.trans (b:=f54_2.b L N some d.1 d.2.1.1 d.2.2.1) (by kernel_rfl) hy)
def Φ54_2 (L N:Nat):Tells:=(addO (Φ33_1 L N) 54 (f54_2.ent L N))
theorem Φ54_2_ok (L N:Nat):TellsOk Tryz.prog (Φ54_2 L N):=addO_ok (Φ33_1_ok L N) (f54_2.ok L N (Φ33_1_ok L N))
def f53_2.j0' {R:Type} (L N:Nat) (k1_e2:LI→LLM→LI→Int→Int→LI→LLM→Option R) (rec1:LI→LLM→LI→Int→Int→Int→Int→LI→LLM→Option R) (v26:LI) (v27:LLM) (v28:LI) (v29:Int) (v30:Int) (v31:Int) (v32:Int) (v33:Bool) (v34:LI) (v35:LLM):Option R:=
 bif v33 then
  bif (decide (0≤v29)&&decide (v29<(v34.length:Int))) then
   k1_e2 v26 v27 v28 v31 v32 (v34.set v29.toNat v30) v35
  else none
 else rec1 v26 v27 v28 v29 (wi (v30+(1:Int))) v31 v32 v34 v35
def f53_2.s1' {R:Type} (L N:Nat) (k1_e2:LI→LLM→LI→Int→Int→LI→LLM→Option R) (rec1:LI→LLM→LI→Int→Int→Int→Int→LI→LLM→Option R) (s9:LI) (s10:LLM) (s11:LI) (s12:Int) (s13:Int) (s14:Int) (s15:Int) (s16:LI) (s17:LLM):Option R:=
 bif (decide (s13<s12)) then
  bif (decide (0≤s13)&&decide (s13<(s9.length:Int))) then
   bif (decide (0≤s12)&&decide (s12<(s9.length:Int))) then
    bif ((listAt s9 (0:Int) s13.toNat)==(listAt s9 (0:Int) s12.toNat)) then
     bif (decide (0≤s13)&&decide (s13<(s17.length:Int))) then
      bif (decide (0≤s12)&&decide (s12<(s17.length:Int))) then
       (f67 L N (listAt s17 [] s13.toNat) (listAt s17 [] s12.toNat)).bind fun y25=>
       f53_2.j0' L N k1_e2 rec1 s9 s10 s11 s12 s13 s14 s15 y25 s16 s17
      else none
     else none
    else f53_2.j0' L N k1_e2 rec1 s9 s10 s11 s12 s13 s14 s15 false s16 s17
   else none
  else none
 else k1_e2 s9 s10 s11 s14 s15 s16 s17
def f53_2.s1 {R:Type} (L N:Nat) (k1_e2:LI→LLM→LI→Int→Int→LI→LLM→Option R) (rec1:LI→LLM→LI→Int→Int→Int→Int→LI→LLM→Option R) (s9:LI) (s10:LLM) (s11:LI) (s12:Int) (s13:Int) (s14:Int) (s15:Int) (s16:LI) (s17:LLM):Option R:=
 f53_2.s1' L N k1_e2 rec1 s9 s10 s11 s12 s13 s14 s15 s16 s17
def f53_2.l1 {R:Type} (L N:Nat) (k1_e2:LI→LLM→LI→Int→Int→LI→LLM→Option R):Nat→LI→LLM→LI→Int→Int→Int→Int→LI→LLM→Option R
 |0,_,_,_,_,_,_,_,_,_=>none
 |n+1,s9,s10,s11,s12,s13,s14,s15,s16,s17=>f53_2.s1 L N k1_e2 (f53_2.l1 L N k1_e2 n) s9 s10 s11 s12 s13 s14 s15 s16 s17
def f53_2.T1 (s9:LI) (s10:LLM) (s11:LI) (s12:Int) (s13:Int) (s14:Int) (s15:Int) (s16:LI) (s17:LLM):T:=mkT 61 [(0,(.tv (.sl i64) s9)),(1,(.fn 54 [(.imf 33 [(.imp (.sl (.sl (.st 0))) s10 0)]),(.imp (.sl i64) s11 0)])),(5,(.row 1011)),(6,(.row 1014)),(7,(.tv i64 s12)),(8,(.tv i64 s13)),(16,(.tv i64 s14)),(17,(.tv i64 s15))]
def f53_2.H1 (s9:LI) (s10:LLM) (s11:LI) (s12:Int) (s13:Int) (s14:Int) (s15:Int) (s16:LI) (s17:LLM):H:=[(1011,(.row 3 i64 s16)),(1014,(.row 43 (.sl (.st 0)) s17))]
def f53_2.T1_e2 (z18:LI) (z19:LLM) (z20:LI) (z21:Int) (z22:Int) (z23:LI) (z24:LLM):T:=mkT 61 [(0,(.tv (.sl i64) z18)),(1,(.fn 54 [(.imf 33 [(.imp (.sl (.sl (.st 0))) z19 0)]),(.imp (.sl i64) z20 0)])),(5,(.row 1011)),(6,(.row 1014)),(16,(.tv i64 z21)),(17,(.tv i64 z22))]
def f53_2.H1_e2 (z18:LI) (z19:LLM) (z20:LI) (z21:Int) (z22:Int) (z23:LI) (z24:LLM):H:=[(1011,(.row 3 i64 z23)),(1014,(.row 43 (.sl (.st 0)) z24))]
def f53_2.p1_e2' {R:Type} (L N:Nat) (k0_e0:LI→Option R) (rec0:LI→LLM→LI→Int→Int→LI→LLM→Option R) (z18:LI) (z19:LLM) (z20:LI) (z21:Int) (z22:Int) (z23:LI) (z24:LLM):Option R:=
 rec0 z18 z19 z20 z21 (wi (z22+(1:Int))) z23 z24
def f53_2.p1_e2 {R:Type} (L N:Nat) (k0_e0:LI→Option R) (rec0:LI→LLM→LI→Int→Int→LI→LLM→Option R) (z18:LI) (z19:LLM) (z20:LI) (z21:Int) (z22:Int) (z23:LI) (z24:LLM):Option R:=
 f53_2.p1_e2' L N k0_e0 rec0 z18 z19 z20 z21 z22 z23 z24
def f53_2.s0' {R:Type} (L N:Nat) (k0_e0:LI→Option R) (rec0:LI→LLM→LI→Int→Int→LI→LLM→Option R) (w1:LI→LLM→LI→Int→Int→Int→Int→LI→LLM→Option R) (s0:LI) (s1:LLM) (s2:LI) (s3:Int) (s4:Int) (s5:LI) (s6:LLM):Option R:=
 bif (decide (s4<s3)) then
  (f54_2 L N s4 s1 s2).bind fun y8=>
  bif (decide (0≤s4)&&decide (s4<(s6.length:Int))) then
   bif (decide (0≤s4)&&decide (s4<(s5.length:Int))) then
    w1 s0 s1 s2 s4 (0:Int) s3 s4 (s5.set s4.toNat s4) (s6.set s4.toNat y8)
   else none
  else none
 else k0_e0 s5
end Go.Proofs.YtfdcjocallblcaaGreatDoor.Ev
