/- The seat's functions as plain functions: made by program (wip/gen/gen.py). -/
import Derived.Test.YthidlhjjnaldhaaGreatDoorEvYa
import Derived.Test.YthidlhjjnaldhaaGreatDoorShelf
namespace Go.Proofs.YthidlhjjnaldhaaGreatDoor.Ev
open Go
variable {R:Type}
set_option linter.unusedVariables false
set_option maxRecDepth 20000
def tyTab:List (Nat×Ty):=[(2,i64),(3,i64),(4,.bool),(5,(.int .u8)),(6,(.int .u8)),(9,.str),(10,.str),(11,.str),(12,(.int .u64)),(21,(.int .i32)),(22,(.sl (.int .u8))),(23,(.sl (.st 1))),(24,(.st 1)),(25,(.st 1)),(32,(.sl i64)),(42,(.sl (.st 1))),(43,(.st 1)),(44,(.st 1)),(54,(.sl (.sl (.st 0)))),(55,(.st 2)),(56,(.st 2)),(61,(.sl (.st 0))),(62,(.st 0)),(63,(.st 0)),(90,(.sl (.sl i64))),(94,(.sl .bool)),(98,(.sl (.sl .bool))),(109,(.sl .str)),(110,(.sl (.st 3))),(113,(.st 3)),(130,(.int .u64)),(148,i64),(155,(.int .u32)),(157,(.int .u64)),(171,(.int .u64)),(205,(.int .u8)),(206,(.int .u8)),(209,(.int .i32)),(210,(.int .i32))]
def tyOf (t:Nat):Option Ty:=tyFind t tyTab
def lives (f i:Nat):List Nat×List Nat:=
 bif Nat.beq f 36&&Nat.beq i 0 then ([1,2,3,4,18,19],[1,2,4,900]) else
 bif Nat.beq f 36&&Nat.beq i 2 then ([1,2,3,4,6,18,19,26,27,28],[1,2,4,22,900]) else
 bif Nat.beq f 36&&Nat.beq i 4 then ([1,2,3,4,6,18,19,26,27,28,41,42,43],[1,2,4,22,900]) else
 bif Nat.beq f 36&&Nat.beq i 6 then ([1,2,3,4,6,10,18,19,26,27,28,41,42,43,54,55,56],[1,2,4,10,22,900]) else
 bif Nat.beq f 38&&Nat.beq i 0 then ([2,7,19,20,21],[12]) else
 bif Nat.beq f 38&&Nat.beq i 2 then ([1,7,41,42,43],[12]) else
 bif Nat.beq f 39&&Nat.beq i 0 then ([2,5,6,17,18,19],[2,15,16]) else
 bif Nat.beq f 39&&Nat.beq i 2 then ([2,5,6,9],[2,15,16]) else
 bif Nat.beq f 39&&Nat.beq i 4 then ([2,5,6,9,49,50,51],[2,15,16]) else
 bif Nat.beq f 40&&Nat.beq i 0 then ([1,3,4,14,15,16],[]) else
 bif Nat.beq f 45&&Nat.beq i 0 then ([1,2,4,5,6,7],[2,4,6,900]) else
 bif Nat.beq f 45&&Nat.beq i 2 then ([1,2,4,5,6,7,8,9],[2,4,6,23,900]) else
 bif Nat.beq f 45&&Nat.beq i 4 then ([1,2,4,5,6,7,8,9,10],[2,4,6,23,900]) else
 bif Nat.beq f 45&&Nat.beq i 6 then ([1,2,4,5,6,7,8,9,10,11,12],[2,4,6,11,23,900]) else
 bif Nat.beq f 46&&Nat.beq i 0 then ([2,3,4,5,6,11],[5,6]) else
 bif Nat.beq f 66&&Nat.beq i 0 then ([2,3,4,6,32,33,34],[2,3,4,6,900]) else
 bif Nat.beq f 66&&Nat.beq i 2 then ([2,4,6,47,48,49],[2,4,6,900]) else
 bif Nat.beq f 67&&Nat.beq i 0 then ([1,3,8,9],[1,5]) else
 bif Nat.beq f 72&&Nat.beq i 0 then ([0,1,7,8],[]) else
 bif Nat.beq f 75&&Nat.beq i 0 then ([1,3],[1]) else
 bif Nat.beq f 75&&Nat.beq i 2 then ([1,3,4],[1]) else
 bif Nat.beq f 77&&Nat.beq i 0 then ([1,3,4],[1,10]) else
 bif Nat.beq f 77&&Nat.beq i 2 then ([1,3,4,5,6,7],[1,10,21,26]) else
 bif Nat.beq f 77&&Nat.beq i 4 then ([1,3,4,5,6,7,8,9],[1,10,21,26]) else
 bif Nat.beq f 78&&Nat.beq i 0 then ([0,3,4],[7]) else
 bif Nat.beq f 78&&Nat.beq i 2 then ([0,3,4,5],[7]) else
 bif Nat.beq f 78&&Nat.beq i 4 then ([0,3,4,5,6],[7]) else
 bif Nat.beq f 79&&Nat.beq i 0 then ([1,2,3,4,5,11],[5]) else
 bif Nat.beq f 81&&Nat.beq i 0 then ([1,5,9,10,11],[]) else
 bif Nat.beq f 85&&Nat.beq i 1 then ([1,3,5,6],[1]) else
 bif Nat.beq f 93&&Nat.beq i 1 then ([2,5,6,7,61,62,63],[2,53,59,60]) else
 bif Nat.beq f 93&&Nat.beq i 3 then ([2,5,6,7,81,82,83],[2,53,59,60]) else
 bif Nat.beq f 93&&Nat.beq i 5 then ([6,7,101,102,103],[53,59,60]) else
 bif Nat.beq f 93&&Nat.beq i 7 then ([6,7,13,101,102,103,107,108,109],[13,53,59,60]) else
 bif Nat.beq f 93&&Nat.beq i 9 then ([2,16,144,145,146],[2,138,144]) else
 bif Nat.beq f 97&&Nat.beq i 0 then ([1,2,5,6],[2]) else
 bif Nat.beq f 98&&Nat.beq i 1 then ([2,5,6,7,8],[2,14,51,57]) else
 bif Nat.beq f 98&&Nat.beq i 3 then ([2,5,6,7,9],[2,14,51,57]) else
 bif Nat.beq f 98&&Nat.beq i 5 then ([5,6,7,10],[14,51,57]) else
 bif Nat.beq f 98&&Nat.beq i 7 then ([5,6,7,10,11],[14,51,57]) else
 bif Nat.beq f 98&&Nat.beq i 9 then ([2,5,12,13],[2,14,165]) else
 bif Nat.beq f 99&&Nat.beq i 1 then ([1,3,4],[1]) else
 bif Nat.beq f 101&&Nat.beq i 0 then ([0,3,4,5],[8]) else
 bif Nat.beq f 104&&Nat.beq i 0 then ([1,2,6,8,9,10,11],[6,10,22,23,900,901]) else
 bif Nat.beq f 104&&Nat.beq i 2 then ([1,2,6,8,9,10,11,12,15,49,50,51],[6,10,22,23,48,900,901]) else
 bif Nat.beq f 105&&Nat.beq i 0 then ([6,7,14,15,16],[10,11,14]) else
 bif Nat.beq f 106&&Nat.beq i 0 then ([1,18,19,20],[1]) else
 bif Nat.beq f 106&&Nat.beq i 2 then ([1,4,18,19,20,24,25,26],[1]) else
 bif Nat.beq f 107&&Nat.beq i 0 then ([1,5,9,10,11],[8]) else
 bif Nat.beq f 111&&Nat.beq i 0 then ([3,5],[3,10]) else
 bif Nat.beq f 112&&Nat.beq i 0 then ([0,6,14,15,16],[9]) else
 bif Nat.beq f 116&&Nat.beq i 0 then ([1,4,6,7,8,9],[4,8,16,19,900]) else
 bif Nat.beq f 116&&Nat.beq i 2 then ([1,4,6,7,8,9,10,11,12],[4,8,16,19,32,33,900]) else
 bif Nat.beq f 116&&Nat.beq i 4 then ([1,4,6,7,8,9,10,11,12,13,14],[4,8,16,19,32,33,900]) else
 bif Nat.beq f 117&&Nat.beq i 0 then ([2,3,4,5,6],[2,3,4,5,900]) else
 bif Nat.beq f 117&&Nat.beq i 2 then ([3,4,5,7,8],[3,4,5,900]) else
 bif Nat.beq f 117&&Nat.beq i 4 then ([3,4,5,7,8,9,10],[3,4,5,41,900]) else
 bif Nat.beq f 120&&Nat.beq i 0 then ([1,3],[1,9]) else
 bif Nat.beq f 129&&Nat.beq i 0 then ([0,1,7,8],[]) else
 bif Nat.beq f 144&&Nat.beq i 0 then ([0,1,5,6,16,17],[11,14]) else
 bif Nat.beq f 144&&Nat.beq i 2 then ([0,1,5,6,7,8,16,17],[11,14]) else
 bif Nat.beq f 146&&Nat.beq i 0 then ([0,1,12,13],[]) else
 bif Nat.beq f 158&&Nat.beq i 0 then ([0,3],[]) else
 bif Nat.beq f 160&&Nat.beq i 0 then ([1,2,5,6],[2,9]) else
 bif Nat.beq f 160&&Nat.beq i 2 then ([1,2,5,6,7,8],[2,9]) else
 bif Nat.beq f 161&&Nat.beq i 0 then ([0,1,5],[]) else
 bif Nat.beq f 185&&Nat.beq i 0 then ([0,1,12,13],[]) else
 bif Nat.beq f 191&&Nat.beq i 0 then ([1,2,3,4,9],[4]) else
 ([],[])
def livesX (f i:Nat):List Nat×List Nat:=
 bif Nat.beq f 36&&Nat.beq i 0 then ([2,4],[2,4,900]) else
 bif Nat.beq f 36&&Nat.beq i 2 then ([1,2,3,4,6,18,19],[1,2,4,22,900]) else
 bif Nat.beq f 36&&Nat.beq i 4 then ([1,2,3,4,6,18,19,26,27,28],[1,2,4,22,900]) else
 bif Nat.beq f 36&&Nat.beq i 6 then ([1,2,3,4,6,18,19,26,27,28,41,42,43],[1,2,4,22,900]) else
 bif Nat.beq f 38&&Nat.beq i 0 then ([7],[12]) else
 bif Nat.beq f 38&&Nat.beq i 2 then ([7],[12]) else
 bif Nat.beq f 39&&Nat.beq i 0 then ([2,5,6],[2,15,16]) else
 bif Nat.beq f 39&&Nat.beq i 2 then ([6],[16]) else
 bif Nat.beq f 39&&Nat.beq i 4 then ([2,5,6,9],[2,15,16]) else
 bif Nat.beq f 40&&Nat.beq i 0 then ([7],[]) else
 bif Nat.beq f 45&&Nat.beq i 0 then ([4,6],[4,6,900]) else
 bif Nat.beq f 45&&Nat.beq i 2 then ([1,2,4,5,6,7,8],[2,4,6,23,900]) else
 bif Nat.beq f 45&&Nat.beq i 4 then ([1,2,4,5,6,7,8,9],[2,4,6,23,900]) else
 bif Nat.beq f 45&&Nat.beq i 6 then ([1,2,4,5,6,7,8,9,10],[2,4,6,23,900]) else
 bif Nat.beq f 46&&Nat.beq i 0 then ([10],[]) else
 bif Nat.beq f 66&&Nat.beq i 0 then ([2,3,4,6],[2,3,4,6,900]) else
 bif Nat.beq f 66&&Nat.beq i 2 then ([4,6],[4,6,900]) else
 bif Nat.beq f 67&&Nat.beq i 0 then ([3],[5]) else
 bif Nat.beq f 72&&Nat.beq i 0 then ([4],[]) else
 bif Nat.beq f 75&&Nat.beq i 0 then ([2],[]) else
 bif Nat.beq f 75&&Nat.beq i 2 then ([1,2,3],[1]) else
 bif Nat.beq f 77&&Nat.beq i 0 then ([3],[10]) else
 bif Nat.beq f 77&&Nat.beq i 2 then ([1,3,4,5],[1,10,21]) else
 bif Nat.beq f 77&&Nat.beq i 4 then ([1,3,4,5,6,7],[1,10,21,26]) else
 bif Nat.beq f 78&&Nat.beq i 0 then ([3],[7]) else
 bif Nat.beq f 78&&Nat.beq i 2 then ([0,3,4,5],[7]) else
 bif Nat.beq f 78&&Nat.beq i 4 then ([0,3,4,5],[7]) else
 bif Nat.beq f 79&&Nat.beq i 0 then ([10],[]) else
 bif Nat.beq f 81&&Nat.beq i 0 then ([4,5],[]) else
 bif Nat.beq f 85&&Nat.beq i 1 then ([2,5],[]) else
 bif Nat.beq f 93&&Nat.beq i 1 then ([2,5,6,7],[2,53,59,60]) else
 bif Nat.beq f 93&&Nat.beq i 3 then ([5,6,7],[53,59,60]) else
 bif Nat.beq f 93&&Nat.beq i 5 then ([7],[60]) else
 bif Nat.beq f 93&&Nat.beq i 7 then ([6,7,101,102,103],[53,59,60]) else
 bif Nat.beq f 93&&Nat.beq i 9 then ([16],[138]) else
 bif Nat.beq f 97&&Nat.beq i 0 then ([5],[]) else
 bif Nat.beq f 98&&Nat.beq i 1 then ([2,5,6,7],[2,14,51,57]) else
 bif Nat.beq f 98&&Nat.beq i 3 then ([5,6,7],[14,51,57]) else
 bif Nat.beq f 98&&Nat.beq i 5 then ([5],[14]) else
 bif Nat.beq f 98&&Nat.beq i 7 then ([5,6,7,10],[14,51,57]) else
 bif Nat.beq f 98&&Nat.beq i 9 then ([5],[14]) else
 bif Nat.beq f 99&&Nat.beq i 1 then ([3],[]) else
 bif Nat.beq f 101&&Nat.beq i 0 then ([0,3,4],[8]) else
 bif Nat.beq f 104&&Nat.beq i 0 then ([6,7,10],[6,10,900,901]) else
 bif Nat.beq f 104&&Nat.beq i 2 then ([1,2,6,7,8,9,10,11,15],[6,10,22,23,48,900,901]) else
 bif Nat.beq f 105&&Nat.beq i 0 then ([3,4,5,6,7],[10,11]) else
 bif Nat.beq f 106&&Nat.beq i 0 then ([2],[]) else
 bif Nat.beq f 106&&Nat.beq i 2 then ([1,2,18,19,20],[1]) else
 bif Nat.beq f 107&&Nat.beq i 0 then ([5],[8]) else
 bif Nat.beq f 111&&Nat.beq i 0 then ([4],[10]) else
 bif Nat.beq f 112&&Nat.beq i 0 then ([6],[9]) else
 bif Nat.beq f 116&&Nat.beq i 0 then ([4,5,8],[4,8,900]) else
 bif Nat.beq f 116&&Nat.beq i 2 then ([1,4,5,6,7,8,9,11],[4,8,16,19,33,900]) else
 bif Nat.beq f 116&&Nat.beq i 4 then ([1,4,6,7,8,9,10,11,12,13,14],[4,8,16,19,32,33,900]) else
 bif Nat.beq f 117&&Nat.beq i 0 then ([2,3,4,5],[2,3,4,5,900]) else
 bif Nat.beq f 117&&Nat.beq i 2 then ([4,5],[4,5,900]) else
 bif Nat.beq f 117&&Nat.beq i 4 then ([3,4,5,7,8,9],[3,4,5,41,900]) else
 bif Nat.beq f 120&&Nat.beq i 0 then ([2],[9]) else
 bif Nat.beq f 129&&Nat.beq i 0 then ([4],[]) else
 bif Nat.beq f 144&&Nat.beq i 0 then ([5],[11]) else
 bif Nat.beq f 144&&Nat.beq i 2 then ([0,1,5,6,16,17],[11,14]) else
 bif Nat.beq f 146&&Nat.beq i 0 then ([4],[]) else
 bif Nat.beq f 158&&Nat.beq i 0 then ([0,2],[]) else
 bif Nat.beq f 160&&Nat.beq i 0 then ([5],[9]) else
 bif Nat.beq f 160&&Nat.beq i 2 then ([1,2,5,6,7],[2,9]) else
 bif Nat.beq f 161&&Nat.beq i 0 then ([4],[]) else
 bif Nat.beq f 185&&Nat.beq i 0 then ([4],[]) else
 bif Nat.beq f 191&&Nat.beq i 0 then ([8],[]) else
 ([],[])
def promT (f i:Nat):List (Nat×Nat×Nat×Option Nat×Nat×Ty):=
 bif Nat.beq f 36&&Nat.beq i 0 then [(4,0,900,none,61,(.sl (.st 0)))] else
 bif Nat.beq f 45&&Nat.beq i 0 then [(6,0,900,none,61,(.sl (.st 0)))] else
 bif Nat.beq f 66&&Nat.beq i 0 then [(6,0,900,none,61,(.sl (.st 0)))] else
 bif Nat.beq f 104&&Nat.beq i 0 then [(6,0,900,(some 0),0,(.sl (.st 0))),(10,0,901,(some 0),0,(.sl (.st 0)))] else
 bif Nat.beq f 116&&Nat.beq i 0 then [(8,0,900,none,61,(.sl (.st 0)))] else
 bif Nat.beq f 117&&Nat.beq i 0 then [(5,0,900,none,61,(.sl (.st 0)))] else
 []
def healT (f i:Nat):List Nat:=
 []
def renT (f i:Nat):List (Nat×Nat):=
 bif Nat.beq f 105&&Nat.beq i 0 then [(10,28),(11,33)] else
 []
def inlT (f:Nat):Bool:=memN f []
theorem okP:OkP Tryz.prog:=OkP.mk' (by kernel_rfl) (by kernel_rfl)
def Φx (L N:Nat):Tells:=addT (addT (addT (addT noTells 71 sortEnt) 68 tidyEnt) 70 (cloneEnt 3)) 132 itoaEnt
theorem Φx_ok (L N:Nat):TellsOk Tryz.prog (Φx L N):=addT_ok (addT_ok (addT_ok (addT_ok (no_ok _) (sort_ok ⟨Tryz.f71,rfl,by kernel_rfl,by kernel_rfl⟩ sortC sortNone)) (tidy_ok ⟨Tryz.f68,rfl,by kernel_rfl,by kernel_rfl⟩ tidyC tidyNone)) (clone_ok ⟨Tryz.f70,rfl,by kernel_rfl,by kernel_rfl⟩ cloneC cloneZero cloneNil)) (itoa_ok ⟨Tryz.f132,rfl,by kernel_rfl,by kernel_rfl⟩ itoaC)
def f33.b' (L N:Nat) (k:LI->Int->Option R) (a:LI):Option R:=
 bif (decide ((a.length:Int)>(2000:Int))) then
  bif (slB (0:Int) (2000:Int) a.length) then
   k (slX a (0:Int) (2000:Int)) (0:Int)
  else none
 else k a (0:Int)
def f33.b (L N:Nat) (k:LI->Int->Option R) (a:LI):Option R:=
 f33.b' L N k a
def f33 (L N:Nat) (a:LI):Option (LI×Int):=f33.b L N (fun a0 a1=>some (a0,a1)) a
def f33.ent (L N:Nat) (args:List AV) (vw:View) (site:Nat):Ans:=match coeD [(.sl (.int .u8))] vw args with
 |some (d,u)=>⟨LI×Int,f33 L N d.1,fun y=>(.ptr site 0,u++[(site,some (.box [(.tv (.sl (.int .u8)) y.1),(.tv i64 y.2)]))],[])⟩
 |none=>Ans.no
noncomputable def E33 (L N:Nat):Env:={P:=Tryz.prog,ty:=tyOf,Φ:=(Φx L N),inl:=inlT,live:=lives,liveX:=livesX,L:=L,dp:=none,prom:=promT,heal:=healT,ren:=renT}
theorem f33.b_eq (L N:Nat) (κ:Dens [(.sl (.int .u8)),i64]->Option R) (a:LI):
  evBody (E33 L N) (evCallI (E33 L N) 0 1000) 1000 33 Tryz.f33 [(.tv (.sl (.int .u8)) a)] [] [] (finB [(.sl (.int .u8)),i64] κ)
  =f33.b L N (fun a0 a1=>κ (a0,a1,())) a:=by kernel_rfl
theorem f33.ok (L N:Nat) (hΦ:TellsOk Tryz.prog ((Φx L N))):EntOk Tryz.prog 33 (f33.ent L N):=by
 intro args vw site h
 unfold f33.ent
 split
 ·rename_i d u ha
  intro y hy hs
  refine call_newbox (y:=y) (dep:=1000) (d1:=(y.1,y.2,())) (E:=(E33 L N)) (ts:=[(.sl (.int .u8))]) (tb:=[(.sl (.int .u8)),i64]) (κ:=(fun d=>some (d.1,d.2.1))) (sound_of hΦ) okP (callI_sound (sound_of hΦ) okP 0 1000) (f:=Tryz.f33) rfl hs ha ?_ (fun _ h=>by obtain rfl:=Option.some.inj h;rfl) site
  exact (f33.b_eq L N (fun d=>some (d.1,d.2.1)) d.1).trans (Eq.trans (b:=f33.b L N (fun a0 a1=>some (a0,a1)) d.1) (by kernel_rfl) hy)
 ·intro y hy
  cases hy
def Φ33 (L N:Nat):Tells:=(addT (Φx L N) 33 (f33.ent L N))
theorem Φ33_ok (L N:Nat):TellsOk Tryz.prog (Φ33 L N):=addT_ok (Φx_ok L N) (f33.ok L N (Φx_ok L N))
def f49.j0' (L N:Nat) (k:Int->LI->Int->Option R) (c:Int) (a:LI) (b:Int):Option R:=
 bif (decide ((wi (b-(1:Int)))<(a.length:Int))) then
  bif (decide (0≤(wi (b-(1:Int))))&&decide ((wi (b-(1:Int)))<(a.length:Int))) then
   bif (decide (c=0)) then
    none
   else k (Int.tmod (wi ((listAt a (0:Int) (wi (b-(1:Int))).toNat))) c) a b
  else none
 else bif (decide ((a.length:Int)=0)) then
  none
 else bif (decide (0≤(Int.tmod (wi (b-(1:Int))) (a.length:Int)))&&decide ((Int.tmod (wi (b-(1:Int))) (a.length:Int))<(a.length:Int))) then
  bif (decide ((a.length:Int)=0)) then
   none
  else bif (decide (0≤(Int.tmod (wi ((wi ((wi (b-(1:Int)))*(7:Int)))+(3:Int))) (a.length:Int)))&&decide ((Int.tmod (wi ((wi ((wi (b-(1:Int)))*(7:Int)))+(3:Int))) (a.length:Int))<(a.length:Int))) then
   bif (decide ((a.length:Int)=0)) then
    none
   else bif (decide ((64:Int)=0)) then
    none
   else bif (decide (c=0)) then
    none
   else k (Int.tmod (IntKind.wrap .i64 ((BitVec.ofInt (IntKind.bits .i64) (wi ((wi ((wi ((wi ((wi ((listAt a (0:Int) (Int.tmod (wi (b-(1:Int))) (a.length:Int)).toNat)))*(131:Int)))+(wi ((wi ((listAt a (0:Int) (Int.tmod (wi ((wi ((wi (b-(1:Int)))*(7:Int)))+(3:Int))) (a.length:Int)).toNat)))*(1117:Int)))))+(wi ((wi (b-(1:Int)))*(29:Int)))))+(wi ((wi (Int.tdiv (wi (b-(1:Int))) (a.length:Int)))*(53:Int)))))^^^BitVec.ofInt (IntKind.bits .i64) (wi (Int.tdiv (wi ((wi ((wi ((wi ((wi ((listAt a (0:Int) (Int.tmod (wi (b-(1:Int))) (a.length:Int)).toNat)))*(131:Int)))+(wi ((wi ((listAt a (0:Int) (Int.tmod (wi ((wi ((wi (b-(1:Int)))*(7:Int)))+(3:Int))) (a.length:Int)).toNat)))*(1117:Int)))))+(wi ((wi (b-(1:Int)))*(29:Int)))))+(wi ((wi (Int.tdiv (wi (b-(1:Int))) (a.length:Int)))*(53:Int))))) (64:Int)))).toNat)) c) a b
  else none
 else none
def f49.b' (L N:Nat) (k:Int->LI->Int->Option R) (c0:LI) (c1:Int) (a:Int):Option R:=
 bif (decide (a<(1:Int))) then
  k (0:Int) c0 (wi (c1+(1:Int)))
 else bif ((c0.length:Int)==(0:Int)) then
  k (0:Int) c0 (wi (c1+(1:Int)))
 else f49.j0' L N k a c0 (wi (c1+(1:Int)))
def f49.b (L N:Nat) (k:Int->LI->Int->Option R) (c0:LI) (c1:Int) (a:Int):Option R:=
 f49.b' L N k c0 c1 a
def f49 (L N:Nat) (c0:LI) (c1:Int) (a:Int):Option (Int×LI×Int):=f49.b L N (fun a0 a1 a2=>some (a0,a1,a2)) c0 c1 a
def f49.ent (L N:Nat) (args:List AV) (vw:View) (site:Nat):Ans:=match boxD [(.sl (.int .u8)),i64] [i64] vw args with
 |some (o,d0,d,u)=>⟨Int×LI×Int,f49 L N d0.1 d0.2.1 d.1,fun y=>((.tv i64 y.1),u++[(o,some (.box [(.tv (.sl (.int .u8)) y.2.1),(.tv i64 y.2.2)]))],[])⟩
 |none=>Ans.no
noncomputable def E49 (L N:Nat):Env:={P:=Tryz.prog,ty:=tyOf,Φ:=(Φ33 L N),inl:=inlT,live:=lives,liveX:=livesX,L:=L,dp:=none,prom:=promT,heal:=healT,ren:=renT}
theorem f49.b_eq (L N:Nat) (κ:AV->Dens [(.sl (.int .u8)),i64]->Option R) (c0:LI) (c1:Int) (a:Int):
  evBody (E49 L N) (evCallI (E49 L N) 0 1000) 1000 49 Tryz.f49 [(.ptr 0 0),(.tv i64 a)] [.ptr 0 0] [(0,(.box [(.tv (.sl (.int .u8)) c0),(.tv i64 c1)]))] (finM (.one i64) [(.sl (.int .u8)),i64] κ)
  =f49.b L N (fun a0 a1 a2=>κ (.tv i64 a0) (a1,a2,())) c0 c1 a:=by kernel_rfl
theorem f49.ok (L N:Nat) (hΦ:TellsOk Tryz.prog ((Φ33 L N))):EntOk Tryz.prog 49 (f49.ent L N):=by
 intro args vw site h
 unfold f49.ent
 split
 ·rename_i o d0 d u ha
  intro y hy hs
  obtain ⟨rest,cs,rfl,ho,hd0,hr,hu⟩:=boxD_some ha
  refine call_box (y:=y) (dep:=1000) (v':=(.tv i64 y.1)) (d1:=(y.2.1,y.2.2,())) (E:=(E49 L N)) (ts:=[(.sl (.int .u8)),i64]) (tr:=[i64]) (rs:=(.one i64)) (κ:=(fun v d=>(unR (.one i64) v).bind fun x=>some (x,d.1,d.2.1))) (sound_of hΦ) okP (callI_sound (sound_of hΦ) okP 0 1000) (f:=Tryz.f49) rfl hs ho hd0 hr hu ?_ (fun _ _ h=>by obtain ⟨x,h1,h2⟩:=unR_bind h;obtain rfl:=Option.some.inj h2;exact ⟨h1,rfl⟩) site
  exact (f49.b_eq L N (fun v d=>(unR (.one i64) v).bind fun x=>some (x,d.1,d.2.1)) d0.1 d0.2.1 d.1).trans (Eq.trans (b:=f49.b L N (fun a0 a1 a2=>some (a0,a1,a2)) d0.1 d0.2.1 d.1) (by kernel_rfl) hy)
 ·intro y hy
  cases hy
def Φ49 (L N:Nat):Tells:=(addT (Φ33 L N) 49 (f49.ent L N))
theorem Φ49_ok (L N:Nat):TellsOk Tryz.prog (Φ49 L N):=addT_ok (Φ33_ok L N) (f49.ok L N (Φ33_ok L N))
def f64.b' (L N:Nat) (k:Int->LI->Int->Option R) (c0:LI) (c1:Int):Option R:=
 (f49 L N c0 c1 (3:Int)).bind fun a=>
 bif (decide (a.1>(0:Int))) then
  (f49 L N a.2.1 a.2.2 (5:Int)).bind fun b=>
  k (wi (b.1-(2:Int))) b.2.1 b.2.2
 else (f49 L N a.2.1 a.2.2 (9:Int)).bind fun c=>
 k (wi (c.1-(4:Int))) c.2.1 c.2.2
def f64.b (L N:Nat) (k:Int->LI->Int->Option R) (c0:LI) (c1:Int):Option R:=
 f64.b' L N k c0 c1
def f64 (L N:Nat) (c0:LI) (c1:Int):Option (Int×LI×Int):=f64.b L N (fun a0 a1 a2=>some (a0,a1,a2)) c0 c1
def f64.ent (L N:Nat) (args:List AV) (vw:View) (site:Nat):Ans:=match boxD [(.sl (.int .u8)),i64] [] vw args with
 |some (o,d0,d,u)=>⟨Int×LI×Int,f64 L N d0.1 d0.2.1,fun y=>((.tv i64 y.1),u++[(o,some (.box [(.tv (.sl (.int .u8)) y.2.1),(.tv i64 y.2.2)]))],[])⟩
 |none=>Ans.no
noncomputable def E64 (L N:Nat):Env:={P:=Tryz.prog,ty:=tyOf,Φ:=(Φ49 L N),inl:=inlT,live:=lives,liveX:=livesX,L:=L,dp:=none,prom:=promT,heal:=healT,ren:=renT}
theorem f64.b_eq (L N:Nat) (κ:AV->Dens [(.sl (.int .u8)),i64]->Option R) (c0:LI) (c1:Int):
  evBody (E64 L N) (evCallI (E64 L N) 0 1000) 1000 64 Tryz.f64 [(.ptr 0 0)] [.ptr 0 0] [(0,(.box [(.tv (.sl (.int .u8)) c0),(.tv i64 c1)]))] (finM (.one i64) [(.sl (.int .u8)),i64] κ)
  =f64.b L N (fun a0 a1 a2=>κ (.tv i64 a0) (a1,a2,())) c0 c1:=by kernel_rfl
theorem f64.ok (L N:Nat) (hΦ:TellsOk Tryz.prog ((Φ49 L N))):EntOk Tryz.prog 64 (f64.ent L N):=by
 intro args vw site h
 unfold f64.ent
 split
 ·rename_i o d0 d u ha
  intro y hy hs
  obtain ⟨rest,cs,rfl,ho,hd0,hr,hu⟩:=boxD_some ha
  refine call_box (y:=y) (dep:=1000) (v':=(.tv i64 y.1)) (d1:=(y.2.1,y.2.2,())) (E:=(E64 L N)) (ts:=[(.sl (.int .u8)),i64]) (tr:=[]) (rs:=(.one i64)) (κ:=(fun v d=>(unR (.one i64) v).bind fun x=>some (x,d.1,d.2.1))) (sound_of hΦ) okP (callI_sound (sound_of hΦ) okP 0 1000) (f:=Tryz.f64) rfl hs ho hd0 hr hu ?_ (fun _ _ h=>by obtain ⟨x,h1,h2⟩:=unR_bind h;obtain rfl:=Option.some.inj h2;exact ⟨h1,rfl⟩) site
  exact (f64.b_eq L N (fun v d=>(unR (.one i64) v).bind fun x=>some (x,d.1,d.2.1)) d0.1 d0.2.1).trans (Eq.trans (b:=f64.b L N (fun a0 a1 a2=>some (a0,a1,a2)) d0.1 d0.2.1) (by kernel_rfl) hy)
 ·intro y hy
  cases hy
def Φ64 (L N:Nat):Tells:=(addT (Φ49 L N) 64 (f64.ent L N))
theorem Φ64_ok (L N:Nat):TellsOk Tryz.prog (Φ64 L N):=addT_ok (Φ49_ok L N) (f64.ok L N (Φ49_ok L N))
def f80.j0' (L N:Nat) (self80:LI->Int->Int->Int->Bool->Option (Tree×LI×Int)) (k:Tree->LI->Int->Option R) (a b:Int) (f:Bool) (l:Int) (r:Bool) (c:LI) (d s t:Int):Option R:=
 bif r then
  (f49 L N c d b).bind fun m=>
  k (Tree.mk (5:Int) m.1 []) m.2.1 m.2.2
 else bif (l==(0:Int)) then
  k (Tree.mk (0:Int) (0:Int) []) c d
 else bif (decide (l<(5:Int))) then
  (f64 L N c d).bind fun e=>
  bif (a==(0:Int)) then
   k (Tree.mk (1:Int) e.1 ([(Tree.mk (0:Int) (0:Int) [])]:LT)) e.2.1 e.2.2
  else (self80 e.2.1 e.2.2 (bif decide ((wi (a-(1:Int)))>(0:Int)) then (wi (a-(1:Int))) else (0:Int)) b true).bind fun o=>
  k (Tree.mk (1:Int) e.1 ([o.1]:LT)) o.2.1 o.2.2
 else bif (l==(5:Int)) then
  (f49 L N c d (4:Int)).bind fun p=>
  (self80 p.2.1 p.2.2 (wi (a-(1:Int))) b f).bind fun q=>
  k (Tree.mk (4:Int) p.1 ([q.1]:LT)) q.2.1 q.2.2
 else bif (l==(8:Int)) then
  (self80 c d (wi (a-(1:Int))) b f).bind fun g=>
  (self80 g.2.1 g.2.2 (wi (a-(1:Int))) b f).bind fun h=>
  k (Tree.mk (3:Int) (0:Int) ([(Tree.mk g.1.op g.1.n g.1.parts),(Tree.mk h.1.op h.1.n h.1.parts)]:LT)) h.2.1 h.2.2
 else (self80 c d (wi (a-(1:Int))) b f).bind fun i=>
 (self80 i.2.1 i.2.2 (wi (a-(1:Int))) b f).bind fun j=>
 k (Tree.mk (2:Int) (0:Int) ([(Tree.mk i.1.op i.1.n i.1.parts),(Tree.mk j.1.op j.1.n j.1.parts)]:LT)) j.2.1 j.2.2
def f80.j1' (L N:Nat) (self80:LI->Int->Int->Int->Bool->Option (Tree×LI×Int)) (k:Tree->LI->Int->Option R) (d a:Int) (b:Bool) (c:Int) (e:LI) (f g h:Int):Option R:=
 bif (decide (c<(2:Int))) then
  bif (decide (a>(0:Int))) then
   f80.j0' L N self80 k d a b c b e f g h
  else f80.j0' L N self80 k d a b c false e f g h
 else f80.j0' L N self80 k d a b c false e f g h
def f80.b' (L N:Nat) (self80:LI->Int->Int->Int->Bool->Option (Tree×LI×Int)) (k:Tree->LI->Int->Option R) (c0:LI) (c1:Int) (b d:Int) (e:Bool):Option R:=
 (f49 L N c0 c1 (9:Int)).bind fun a=>
 bif (b==(0:Int)) then
  (f49 L N a.2.1 a.2.2 (2:Int)).bind fun c=>
  f80.j1' L N self80 k b d e c.1 c.2.1 c.2.2 (0:Int) (0:Int)
 else f80.j1' L N self80 k b d e a.1 a.2.1 a.2.2 (0:Int) (0:Int)
def f80.b (L N:Nat) (self80:LI->Int->Int->Int->Bool->Option (Tree×LI×Int)) (k:Tree->LI->Int->Option R) (c0:LI) (c1:Int) (a c:Int) (d:Bool):Option R:=
 f80.b' L N self80 k c0 c1 a c d
def f80 (L N:Nat):Nat->LI->Int->Int->Int->Bool->Option (Tree×LI×Int)
 |0,_,_,_,_,_=>none
 |n+1,c0,c1,a,c,d=>f80.b L N (f80 L N n) (fun a0 a1 a2=>some (a0,a1,a2)) c0 c1 a c d
def f80.ent (L N m:Nat) (args:List AV) (vw:View) (site:Nat):Ans:=match boxD [(.sl (.int .u8)),i64] [i64,i64,.bool] vw args with
 |some (o,d0,d,u)=>⟨Tree×LI×Int,f80 L N m d0.1 d0.2.1 d.1 d.2.1 d.2.2.1,fun y=>((.tv (.st 1) y.1),u++[(o,some (.box [(.tv (.sl (.int .u8)) y.2.1),(.tv i64 y.2.2)]))],[])⟩
 |none=>Ans.no
def Φ80s (L N m:Nat):Tells:=(addT (Φ64 L N) 80 (f80.ent L N m))
noncomputable def E80 (L N m:Nat):Env:={P:=Tryz.prog,ty:=tyOf,Φ:=Φ80s L N m,inl:=inlT,live:=lives,liveX:=livesX,L:=L,dp:=none,prom:=promT,heal:=healT,ren:=renT}
theorem f80.b_eq (L N m:Nat) (κ:AV->Dens [(.sl (.int .u8)),i64]->Option R) (c0:LI) (c1:Int) (a c:Int) (d:Bool):
  evBody (E80 L N m) (evCallI (E80 L N m) 0 1000) 1000 80 Tryz.f80 [(.ptr 0 0),(.tv i64 a),(.tv i64 c),(.tv .bool d)] [.ptr 0 0] [(0,(.box [(.tv (.sl (.int .u8)) c0),(.tv i64 c1)]))] (finM (.one (.st 1)) [(.sl (.int .u8)),i64] κ)
  =f80.b L N (f80 L N m) (fun a0 a1 a2=>κ (.tv (.st 1) a0) (a1,a2,())) c0 c1 a c d:=by kernel_rfl
theorem f80.ok (L N m:Nat) (hΦ:TellsOk Tryz.prog (Φ80s L N m)):EntOk Tryz.prog 80 (f80.ent L N (m+1)):=by
 intro args vw site h
 unfold f80.ent
 split
 ·rename_i o d0 d u ha
  intro y hy hs
  obtain ⟨rest,cs,rfl,ho,hd0,hr,hu⟩:=boxD_some ha
  refine call_box (y:=y) (dep:=1000) (v':=(.tv (.st 1) y.1)) (d1:=(y.2.1,y.2.2,())) (E:=(E80 L N m)) (ts:=[(.sl (.int .u8)),i64]) (tr:=[i64,i64,.bool]) (rs:=(.one (.st 1))) (κ:=(fun v d=>(unR (.one (.st 1)) v).bind fun x=>some (x,d.1,d.2.1))) (sound_of hΦ) okP (callI_sound (sound_of hΦ) okP 0 1000) (f:=Tryz.f80) rfl hs ho hd0 hr hu ?_ (fun _ _ h=>by obtain ⟨x,h1,h2⟩:=unR_bind h;obtain rfl:=Option.some.inj h2;exact ⟨h1,rfl⟩) site
  exact (f80.b_eq L N m (fun v d=>(unR (.one (.st 1)) v).bind fun x=>some (x,d.1,d.2.1)) d0.1 d0.2.1 d.1 d.2.1 d.2.2.1).trans (Eq.trans (b:=f80.b L N (f80 L N m) (fun a0 a1 a2=>some (a0,a1,a2)) d0.1 d0.2.1 d.1 d.2.1 d.2.2.1) (by kernel_rfl) hy)
 ·intro y hy
  cases hy
theorem Φ80s_ok (L N:Nat):∀m,TellsOk Tryz.prog (Φ80s L N m):=by
 intro m
 induction m with
 |zero=>exact (addT_ok (Φ64_ok L N) (fun args vw site h=>by unfold f80.ent;split<;>(intro y hy;cases hy)))
 |succ m ih=>exact (addT_ok (Φ64_ok L N) (f80.ok L N m ih))
def Φ80 (L N:Nat):Tells:=(addT (Φ64 L N) 80 (f80.ent L N N))
theorem Φ80_ok (L N:Nat):TellsOk Tryz.prog (Φ80 L N):=Φ80s_ok L N N
def f47.b' (L N:Nat) (k:Tree->LI->Int->Option R) (c0:LI) (c1:Int) (e:Int):Option R:=
 (f49 L N c0 c1 (4:Int)).bind fun d=>
 (f80 L N N d.2.1 d.2.2 (wi ((1:Int)+d.1)) e false).bind fun a=>
 (f49 L N a.2.1 a.2.2 (24:Int)).bind fun b=>
 bif (b.1==(0:Int)) then
  k (Tree.mk ((Tree.mk a.1.op (wi (a.1.n+(7:Int))) a.1.parts).op) ((Tree.mk a.1.op (wi (a.1.n+(7:Int))) a.1.parts).n) ((Tree.mk a.1.op (wi (a.1.n+(7:Int))) a.1.parts).parts)) b.2.1 b.2.2
 else bif (b.1==(1:Int)) then
  (f49 L N b.2.1 b.2.2 (8:Int)).bind fun c=>
  k (Tree.mk ((Tree.mk c.1 a.1.n a.1.parts).op) ((Tree.mk c.1 a.1.n a.1.parts).n) ((Tree.mk c.1 a.1.n a.1.parts).parts)) c.2.1 c.2.2
 else bif (b.1==(2:Int)) then
  bif (decide (([(Tree.mk (0:Int) (0:Int) [])]:LT).length+a.1.parts.length≤lim)) then
   k (Tree.mk a.1.op a.1.n (([(Tree.mk (0:Int) (0:Int) [])]:LT)++a.1.parts)) b.2.1 b.2.2
  else none
 else k (Tree.mk ((Tree.mk a.1.op a.1.n a.1.parts).op) ((Tree.mk a.1.op a.1.n a.1.parts).n) ((Tree.mk a.1.op a.1.n a.1.parts).parts)) b.2.1 b.2.2
def f47.b (L N:Nat) (k:Tree->LI->Int->Option R) (c0:LI) (c1:Int) (a:Int):Option R:=
 f47.b' L N k c0 c1 a
def f47 (L N:Nat) (c0:LI) (c1:Int) (a:Int):Option (Tree×LI×Int):=f47.b L N (fun a0 a1 a2=>some (a0,a1,a2)) c0 c1 a
def f47.ent (L N:Nat) (args:List AV) (vw:View) (site:Nat):Ans:=match boxD [(.sl (.int .u8)),i64] [i64] vw args with
 |some (o,d0,d,u)=>⟨Tree×LI×Int,f47 L N d0.1 d0.2.1 d.1,fun y=>((.tv (.st 1) y.1),u++[(o,some (.box [(.tv (.sl (.int .u8)) y.2.1),(.tv i64 y.2.2)]))],[])⟩
 |none=>Ans.no
noncomputable def E47 (L N:Nat):Env:={P:=Tryz.prog,ty:=tyOf,Φ:=(Φ80 L N),inl:=inlT,live:=lives,liveX:=livesX,L:=L,dp:=none,prom:=promT,heal:=healT,ren:=renT}
theorem f47.b_eq (L N:Nat) (κ:AV->Dens [(.sl (.int .u8)),i64]->Option R) (c0:LI) (c1:Int) (a:Int):
  evBody (E47 L N) (evCallI (E47 L N) 0 1000) 1000 47 Tryz.f47 [(.ptr 0 0),(.tv i64 a)] [.ptr 0 0] [(0,(.box [(.tv (.sl (.int .u8)) c0),(.tv i64 c1)]))] (finM (.one (.st 1)) [(.sl (.int .u8)),i64] κ)
  =f47.b L N (fun a0 a1 a2=>κ (.tv (.st 1) a0) (a1,a2,())) c0 c1 a:=by kernel_rfl
theorem f47.ok (L N:Nat) (hΦ:TellsOk Tryz.prog ((Φ80 L N))):EntOk Tryz.prog 47 (f47.ent L N):=by
 intro args vw site h
 unfold f47.ent
 split
 ·rename_i o d0 d u ha
  intro y hy hs
  obtain ⟨rest,cs,rfl,ho,hd0,hr,hu⟩:=boxD_some ha
  refine call_box (y:=y) (dep:=1000) (v':=(.tv (.st 1) y.1)) (d1:=(y.2.1,y.2.2,())) (E:=(E47 L N)) (ts:=[(.sl (.int .u8)),i64]) (tr:=[i64]) (rs:=(.one (.st 1))) (κ:=(fun v d=>(unR (.one (.st 1)) v).bind fun x=>some (x,d.1,d.2.1))) (sound_of hΦ) okP (callI_sound (sound_of hΦ) okP 0 1000) (f:=Tryz.f47) rfl hs ho hd0 hr hu ?_ (fun _ _ h=>by obtain ⟨x,h1,h2⟩:=unR_bind h;obtain rfl:=Option.some.inj h2;exact ⟨h1,rfl⟩) site
  exact (f47.b_eq L N (fun v d=>(unR (.one (.st 1)) v).bind fun x=>some (x,d.1,d.2.1)) d0.1 d0.2.1 d.1).trans (Eq.trans (b:=f47.b L N (fun a0 a1 a2=>some (a0,a1,a2)) d0.1 d0.2.1 d.1) (by kernel_rfl) hy)
 ·intro y hy
  cases hy
def Φ47 (L N:Nat):Tells:=(addT (Φ80 L N) 47 (f47.ent L N))
theorem Φ47_ok (L N:Nat):TellsOk Tryz.prog (Φ47 L N):=addT_ok (Φ80_ok L N) (f47.ok L N (Φ80_ok L N))
def f101.s0' (L N:Nat) (k0_e0:Int->LI->Int->LT->Option R) (rec0:Int->Int->LI->Int->LT->Option R) (a e:Int) (f:LI) (g:Int) (c:LT):Option R:=
 bif (decide (e<a)) then
  (f49 L N f g (3:Int)).bind fun d=>
  (f80 L N N d.2.1 d.2.2 (wi ((1:Int)+d.1)) a false).bind fun b=>
  bif (decide (c.length+([b.1]:LT).length≤lim)) then
   rec0 a (wi (e+(1:Int))) b.2.1 b.2.2 (c++([b.1]:LT))
  else none
 else k0_e0 a f g c
def f101.s0 (L N:Nat) (k0_e0:Int->LI->Int->LT->Option R) (rec0:Int->Int->LI->Int->LT->Option R) (a b:Int) (c:LI) (d:Int) (e:LT):Option R:=
 f101.s0' L N k0_e0 rec0 a b c d e
def f101.l0 (L N:Nat) (k0_e0:Int->LI->Int->LT->Option R):Nat->Int->Int->LI->Int->LT->Option R
 |0,_,_,_,_,_=>none
 |n+1,a,b,c,d,e=>f101.s0 L N k0_e0 (f101.l0 L N k0_e0 n) a b c d e
def f101.T0 (a b:Int) (c:LI) (d:Int) (e:LT):T:=mkT 41 [(0,(.ptr 0 0)),(3,(.tv i64 a)),(4,(.row 1008)),(5,(.tv i64 b))]++[.ptr 0 0]
def f101.H0 (d e:Int) (a:LI) (b:Int) (c:LT):H:=[(0,(.box [(.tv (.sl (.int .u8)) a),(.tv i64 b)])),(1008,(.row 25 (.st 1) c))]
def f101.T0_e0 (a:Int) (b:LI) (c:Int) (d:LT):T:=mkT 41 [(0,(.ptr 0 0)),(3,(.tv i64 a)),(4,(.row 1008))]++[.ptr 0 0]
def f101.H0_e0 (d:Int) (a:LI) (b:Int) (c:LT):H:=[(0,(.box [(.tv (.sl (.int .u8)) a),(.tv i64 b)])),(1008,(.row 25 (.st 1) c))]
def f101.j0' (L N:Nat) (k:LT->LI->Int->Option R) (d:Int) (g:Bool) (e:LI) (f:Int) (b:LT):Option R:=
 bif g then
  (f49 L N e f d).bind fun a=>
  (f49 L N a.2.1 a.2.2 (wi (d+(1:Int)))).bind fun c=>
  bif (decide (0≤a.1)&&decide (a.1<(b.length:Int))) then
   k (b.set a.1.toNat (Tree.mk (5:Int) c.1 [])) c.2.1 c.2.2
  else none
 else k b e f
def f101.p0_e0' (L N:Nat) (k:LT->LI->Int->Option R) (a:Int) (c:LI) (d:Int) (e:LT):Option R:=
 bif (decide (a>(0:Int))) then
  (f49 L N c d (20:Int)).bind fun b=>
  f101.j0' L N k a (b.1==(0:Int)) b.2.1 b.2.2 e
 else f101.j0' L N k a false c d e
def f101.p0_e0 (L N:Nat) (k:LT->LI->Int->Option R) (a:Int) (b:LI) (c:Int) (d:LT):Option R:=
 f101.p0_e0' L N k a b c d
def f101.b' (L N:Nat) (k:LT->LI->Int->Option R) (b:Int->Int->LI->Int->LT->Option R) (c0:LI) (c1:Int):Option R:=
 (f49 L N c0 c1 (4:Int)).bind fun a=>
 b a.1 (0:Int) a.2.1 a.2.2 ([]:LT)
def f101.b (L N:Nat) (k:LT->LI->Int->Option R) (c0:LI) (c1:Int):Option R:=
 f101.b' L N k (fun a c d e f=>f101.l0 L N (fun g h i j=>f101.p0_e0 L N k g h i j) L a c d e f) c0 c1
def f101 (L N:Nat) (c0:LI) (c1:Int):Option (LT×LI×Int):=f101.b L N (fun a0 a1 a2=>some (a0,a1,a2)) c0 c1
def f101.ent (L N:Nat) (args:List AV) (vw:View) (site:Nat):Ans:=match boxD [(.sl (.int .u8)),i64] [] vw args with
 |some (o,d0,d,u)=>⟨LT×LI×Int,f101 L N d0.1 d0.2.1,fun y=>((.tv (.sl (.st 1)) y.1),u++[(o,some (.box [(.tv (.sl (.int .u8)) y.2.1),(.tv i64 y.2.2)]))],[])⟩
 |none=>Ans.no
noncomputable def E101 (L N:Nat):Env:={P:=Tryz.prog,ty:=tyOf,Φ:=(Φ47 L N),inl:=inlT,live:=lives,liveX:=livesX,L:=L,dp:=none,prom:=promT,heal:=healT,ren:=renT}
noncomputable def f101.c0:Code:=loopAt 0 (codeOf Tryz.f101)
def f101.X0_e0 (κ:KX R):=fun a b c d=>κ (.exit 0) (f101.T0_e0 a b c d) (f101.H0_e0 a b c d)
def f101.R0 (rec:KT R):=fun a b c d e=>rec (f101.T0 a b c d e) (f101.H0 a b c d e)
theorem f101.s0_eq (L N:Nat) (κ:KX R) (rec:KT R) (a b:Int) (c:LI) (d:Int) (e:LT):
  evRd (E101 L N) (evCallI (E101 L N) 0 1000) 1000 101 41 0 f101.c0 κ rec (f101.T0 a b c d e) (f101.H0 a b c d e)
  =f101.s0 L N (f101.X0_e0 κ) (f101.R0 rec) a b c d e:=by kernel_rfl
theorem f101.l0_eq (L N:Nat) (κ:KX R):∀(n:Nat) (a b:Int) (c:LI) (d:Int) (e:LT),
  evLp (E101 L N) (evCallI (E101 L N) 0 1000) 1000 101 41 0 f101.c0 κ n (f101.T0 a b c d e) (f101.H0 a b c d e)
  =f101.l0 L N (f101.X0_e0 κ) n a b c d e:=by
 intro n
 induction n with
 |zero=>intros;rfl
 |succ n ih=>
  intro a b c d e
  rw [evLp_succ,f101.s0_eq]
  delta f101.R0
  simp only [ih]
  rfl
theorem f101.p0_e0_eq (L N:Nat) (κ:AV->Dens [(.sl (.int .u8)),i64]->Option R) (a:Int) (b:LI) (c:Int) (d:LT):
  (contAt (E101 L N) (evCallI (E101 L N) 0 1000) 1000 101 41 0 (codeOf Tryz.f101) (finK (E101 L N) 1000 Tryz.f101 (finM (.one (.sl (.st 1))) [(.sl (.int .u8)),i64] κ))) (.exit 0) (f101.T0_e0 a b c d) (f101.H0_e0 a b c d)
  =f101.p0_e0 L N (fun a0 a1 a2=>κ (.tv (.sl (.st 1)) a0) (a1,a2,())) a b c d:=by kernel_rfl
theorem f101.b_eq (L N:Nat) (κ:AV->Dens [(.sl (.int .u8)),i64]->Option R) (c0:LI) (c1:Int):
  evBody (E101 L N) (evCallI (E101 L N) 0 1000) 1000 101 Tryz.f101 [(.ptr 0 0)] [.ptr 0 0] [(0,(.box [(.tv (.sl (.int .u8)) c0),(.tv i64 c1)]))] (finM (.one (.sl (.st 1))) [(.sl (.int .u8)),i64] κ)
  =f101.b L N (fun a0 a1 a2=>κ (.tv (.sl (.st 1)) a0) (a1,a2,())) c0 c1:=by
 refine Eq.trans (b:=f101.b' L N (fun a0 a1 a2=>κ (.tv (.sl (.st 1)) a0) (a1,a2,())) (fun a c d e f=>evLp (E101 L N) (evCallI (E101 L N) 0 1000) 1000 101 41 0 f101.c0 (contAt (E101 L N) (evCallI (E101 L N) 0 1000) 1000 101 41 0 (codeOf Tryz.f101) (finK (E101 L N) 1000 Tryz.f101 (finM (.one (.sl (.st 1))) [(.sl (.int .u8)),i64] κ))) L (f101.T0 a c d e f) (f101.H0 a c d e f)) c0 c1) (by kernel_rfl) ?_
 unfold f101.b
 simp only [f101.l0_eq]
 delta f101.X0_e0
 simp only [f101.p0_e0_eq]
theorem f101.ok (L N:Nat) (hΦ:TellsOk Tryz.prog ((Φ47 L N))):EntOk Tryz.prog 101 (f101.ent L N):=by
 intro args vw site h
 unfold f101.ent
 split
 ·rename_i o d0 d u ha
  intro y hy hs
  obtain ⟨rest,cs,rfl,ho,hd0,hr,hu⟩:=boxD_some ha
  refine call_box (y:=y) (dep:=1000) (v':=(.tv (.sl (.st 1)) y.1)) (d1:=(y.2.1,y.2.2,())) (E:=(E101 L N)) (ts:=[(.sl (.int .u8)),i64]) (tr:=[]) (rs:=(.one (.sl (.st 1)))) (κ:=(fun v d=>(unR (.one (.sl (.st 1))) v).bind fun x=>some (x,d.1,d.2.1))) (sound_of hΦ) okP (callI_sound (sound_of hΦ) okP 0 1000) (f:=Tryz.f101) rfl hs ho hd0 hr hu ?_ (fun _ _ h=>by obtain ⟨x,h1,h2⟩:=unR_bind h;obtain rfl:=Option.some.inj h2;exact ⟨h1,rfl⟩) site
  exact (f101.b_eq L N (fun v d=>(unR (.one (.sl (.st 1))) v).bind fun x=>some (x,d.1,d.2.1)) d0.1 d0.2.1).trans (Eq.trans (b:=f101.b L N (fun a0 a1 a2=>some (a0,a1,a2)) d0.1 d0.2.1) (by kernel_rfl) hy)
 ·intro y hy
  cases hy
def Φ101 (L N:Nat):Tells:=(addT (Φ47 L N) 101 (f101.ent L N))
theorem Φ101_ok (L N:Nat):TellsOk Tryz.prog (Φ101 L N):=addT_ok (Φ47_ok L N) (f101.ok L N (Φ47_ok L N))
def f63.j0' (L N:Nat) (k:Tree->LT->LI->Int->Option R) (a:LT) (h:Bool) (f:LI) (g i:Int) (j b c:Int) (d:LT):Option R:=
 bif h then
  (f49 L N f g (a.length:Int)).bind fun e=>
  k (Tree.mk (5:Int) e.1 []) a e.2.1 e.2.2
 else k (Tree.mk ((Tree.mk b c d).op) ((Tree.mk b c d).n) ((Tree.mk b c d).parts)) a f g
def f63.b' (L N:Nat) (k:Tree->LT->LI->Int->Option R) (c0:LI) (c1:Int):Option R:=
 (f101 L N c0 c1).bind fun b=>
 (f47 L N b.2.1 b.2.2 (b.1.length:Int)).bind fun a=>
 bif (decide ((b.1.length:Int)>(0:Int))) then
  (f49 L N a.2.1 a.2.2 (3:Int)).bind fun c=>
  f63.j0' L N k b.1 (c.1==(0:Int)) c.2.1 c.2.2 (0:Int) (0:Int) a.1.op a.1.n a.1.parts
 else f63.j0' L N k b.1 false a.2.1 a.2.2 (0:Int) (0:Int) a.1.op a.1.n a.1.parts
def f63.b (L N:Nat) (k:Tree->LT->LI->Int->Option R) (c0:LI) (c1:Int):Option R:=
 f63.b' L N k c0 c1
def f63 (L N:Nat) (c0:LI) (c1:Int):Option (Tree×LT×LI×Int):=f63.b L N (fun a0 a1 a2 a3=>some (a0,a1,a2,a3)) c0 c1
def f63.ent (L N:Nat) (args:List AV) (vw:View) (site:Nat):Ans:=match boxD [(.sl (.int .u8)),i64] [] vw args with
 |some (o,d0,d,u)=>⟨Tree×LT×LI×Int,f63 L N d0.1 d0.2.1,fun y=>((.tup [(.tv (.st 1) y.1),(.tv (.sl (.st 1)) y.2.1)]),u++[(o,some (.box [(.tv (.sl (.int .u8)) y.2.2.1),(.tv i64 y.2.2.2)]))],[])⟩
 |none=>Ans.no
noncomputable def E63 (L N:Nat):Env:={P:=Tryz.prog,ty:=tyOf,Φ:=(Φ101 L N),inl:=inlT,live:=lives,liveX:=livesX,L:=L,dp:=none,prom:=promT,heal:=healT,ren:=renT}
theorem f63.b_eq (L N:Nat) (κ:AV->Dens [(.sl (.int .u8)),i64]->Option R) (c0:LI) (c1:Int):
  evBody (E63 L N) (evCallI (E63 L N) 0 1000) 1000 63 Tryz.f63 [(.ptr 0 0)] [.ptr 0 0] [(0,(.box [(.tv (.sl (.int .u8)) c0),(.tv i64 c1)]))] (finM (.many [(.st 1),(.sl (.st 1))]) [(.sl (.int .u8)),i64] κ)
  =f63.b L N (fun a0 a1 a2 a3=>κ (.tup [(.tv (.st 1) a0),(.tv (.sl (.st 1)) a1)]) (a2,a3,())) c0 c1:=by kernel_rfl
theorem f63.ok (L N:Nat) (hΦ:TellsOk Tryz.prog ((Φ101 L N))):EntOk Tryz.prog 63 (f63.ent L N):=by
 intro args vw site h
 unfold f63.ent
 split
 ·rename_i o d0 d u ha
  intro y hy hs
  obtain ⟨rest,cs,rfl,ho,hd0,hr,hu⟩:=boxD_some ha
  refine call_box (y:=y) (dep:=1000) (v':=(.tup [(.tv (.st 1) y.1),(.tv (.sl (.st 1)) y.2.1)])) (d1:=(y.2.2.1,y.2.2.2,())) (E:=(E63 L N)) (ts:=[(.sl (.int .u8)),i64]) (tr:=[]) (rs:=(.many [(.st 1),(.sl (.st 1))])) (κ:=(fun v d=>(unR (.many [(.st 1),(.sl (.st 1))]) v).bind fun x=>some (x.1,x.2,d.1,d.2.1))) (sound_of hΦ) okP (callI_sound (sound_of hΦ) okP 0 1000) (f:=Tryz.f63) rfl hs ho hd0 hr hu ?_ (fun _ _ h=>by obtain ⟨x,h1,h2⟩:=unR_bind h;obtain rfl:=Option.some.inj h2;exact ⟨h1,rfl⟩) site
  exact (f63.b_eq L N (fun v d=>(unR (.many [(.st 1),(.sl (.st 1))]) v).bind fun x=>some (x.1,x.2,d.1,d.2.1)) d0.1 d0.2.1).trans (Eq.trans (b:=f63.b L N (fun a0 a1 a2 a3=>some (a0,a1,a2,a3)) d0.1 d0.2.1) (by kernel_rfl) hy)
 ·intro y hy
  cases hy
def Φ63 (L N:Nat):Tells:=(addT (Φ101 L N) 63 (f63.ent L N))
theorem Φ63_ok (L N:Nat):TellsOk Tryz.prog (Φ63 L N):=addT_ok (Φ101_ok L N) (f63.ok L N (Φ101_ok L N))
def f34.j0' (L N:Nat) (k:Tree->Tree->LT->LI->Int->Option R) (g:LT) (j:Bool) (h:LI) (i l:Int) (m o:Int) (p b c:Int) (a:LT) (d e:Int) (f:LT):Option R:=
 bif j then
  bif (decide (0≤(1:Int))&&decide ((1:Int)<(a.length:Int))) then
   bif (decide (0≤(0:Int))&&decide ((0:Int)<(a.length:Int))) then
    k (Tree.mk ((Tree.mk b c a).op) ((Tree.mk b c a).n) ((Tree.mk b c a).parts)) (Tree.mk b (0:Int) ([(listAt a (Ty.dflt (.st 1)) (1:Int).toNat),(listAt a (Ty.dflt (.st 1)) (0:Int).toNat)]:LT)) g h i
   else none
  else none
 else k (Tree.mk ((Tree.mk b c a).op) ((Tree.mk b c a).n) ((Tree.mk b c a).parts)) (Tree.mk ((Tree.mk d e f).op) ((Tree.mk d e f).n) ((Tree.mk d e f).parts)) g h i
def f34.b' (L N:Nat) (k:Tree->Tree->LT->LI->Int->Option R) (c0:LI) (c1:Int):Option R:=
 (f63 L N c0 c1).bind fun a=>
 (f47 L N a.2.2.1 a.2.2.2 (a.2.1.length:Int)).bind fun b=>
 (f49 L N b.2.1 b.2.2 (5:Int)).bind fun c=>
 bif (c.1==(0:Int)) then
  k (Tree.mk ((Tree.mk a.1.op a.1.n a.1.parts).op) ((Tree.mk a.1.op a.1.n a.1.parts).n) ((Tree.mk a.1.op a.1.n a.1.parts).parts)) (Tree.mk (2:Int) (0:Int) ([(Tree.mk a.1.op a.1.n a.1.parts),(Tree.mk a.1.op a.1.n a.1.parts)]:LT)) a.2.1 c.2.1 c.2.2
 else bif (c.1==(1:Int)) then
  k (Tree.mk ((Tree.mk a.1.op a.1.n a.1.parts).op) ((Tree.mk a.1.op a.1.n a.1.parts).n) ((Tree.mk a.1.op a.1.n a.1.parts).parts)) (Tree.mk (3:Int) (0:Int) ([(Tree.mk a.1.op a.1.n a.1.parts),(Tree.mk (0:Int) (0:Int) [])]:LT)) a.2.1 c.2.1 c.2.2
 else bif (c.1==(2:Int)) then
  bif (a.1.op==(2:Int)) then
   f34.j0' L N k a.2.1 ((a.1.parts.length:Int)==(2:Int)) c.2.1 c.2.2 (0:Int) (0:Int) (0:Int) (0:Int) a.1.op a.1.n a.1.parts b.1.op b.1.n b.1.parts
  else bif (a.1.op==(3:Int)) then
   f34.j0' L N k a.2.1 ((a.1.parts.length:Int)==(2:Int)) c.2.1 c.2.2 (0:Int) (0:Int) (0:Int) (0:Int) a.1.op a.1.n a.1.parts b.1.op b.1.n b.1.parts
  else f34.j0' L N k a.2.1 false c.2.1 c.2.2 (0:Int) (0:Int) (0:Int) (0:Int) a.1.op a.1.n a.1.parts b.1.op b.1.n b.1.parts
 else bif (c.1==(3:Int)) then
  (f64 L N c.2.1 c.2.2).bind fun d=>
  k (Tree.mk (1:Int) d.1 ([(Tree.mk a.1.op a.1.n a.1.parts)]:LT)) (Tree.mk (1:Int) d.1 ([(Tree.mk (1:Int) (0:Int) ([(Tree.mk a.1.op a.1.n a.1.parts)]:LT))]:LT)) a.2.1 d.2.1 d.2.2
 else k (Tree.mk ((Tree.mk a.1.op a.1.n a.1.parts).op) ((Tree.mk a.1.op a.1.n a.1.parts).n) ((Tree.mk a.1.op a.1.n a.1.parts).parts)) (Tree.mk ((Tree.mk b.1.op b.1.n b.1.parts).op) ((Tree.mk b.1.op b.1.n b.1.parts).n) ((Tree.mk b.1.op b.1.n b.1.parts).parts)) a.2.1 c.2.1 c.2.2
def f34.b (L N:Nat) (k:Tree->Tree->LT->LI->Int->Option R) (c0:LI) (c1:Int):Option R:=
 f34.b' L N k c0 c1
def f34 (L N:Nat) (c0:LI) (c1:Int):Option (Tree×Tree×LT×LI×Int):=f34.b L N (fun a0 a1 a2 a3 a4=>some (a0,a1,a2,a3,a4)) c0 c1
def f34.ent (L N:Nat) (args:List AV) (vw:View) (site:Nat):Ans:=match boxD [(.sl (.int .u8)),i64] [] vw args with
 |some (o,d0,d,u)=>⟨Tree×Tree×LT×LI×Int,f34 L N d0.1 d0.2.1,fun y=>((.tup [(.tv (.st 1) y.1),(.tv (.st 1) y.2.1),(.tv (.sl (.st 1)) y.2.2.1)]),u++[(o,some (.box [(.tv (.sl (.int .u8)) y.2.2.2.1),(.tv i64 y.2.2.2.2)]))],[])⟩
 |none=>Ans.no
noncomputable def E34 (L N:Nat):Env:={P:=Tryz.prog,ty:=tyOf,Φ:=(Φ63 L N),inl:=inlT,live:=lives,liveX:=livesX,L:=L,dp:=none,prom:=promT,heal:=healT,ren:=renT}
theorem f34.b_eq (L N:Nat) (κ:AV->Dens [(.sl (.int .u8)),i64]->Option R) (c0:LI) (c1:Int):
  evBody (E34 L N) (evCallI (E34 L N) 0 1000) 1000 34 Tryz.f34 [(.ptr 0 0)] [.ptr 0 0] [(0,(.box [(.tv (.sl (.int .u8)) c0),(.tv i64 c1)]))] (finM (.many [(.st 1),(.st 1),(.sl (.st 1))]) [(.sl (.int .u8)),i64] κ)
  =f34.b L N (fun a0 a1 a2 a3 a4=>κ (.tup [(.tv (.st 1) a0),(.tv (.st 1) a1),(.tv (.sl (.st 1)) a2)]) (a3,a4,())) c0 c1:=by kernel_rfl
theorem f34.ok (L N:Nat) (hΦ:TellsOk Tryz.prog ((Φ63 L N))):EntOk Tryz.prog 34 (f34.ent L N):=by
 intro args vw site h
 unfold f34.ent
 split
 ·rename_i o d0 d u ha
  intro y hy hs
  obtain ⟨rest,cs,rfl,ho,hd0,hr,hu⟩:=boxD_some ha
  refine call_box (y:=y) (dep:=1000) (v':=(.tup [(.tv (.st 1) y.1),(.tv (.st 1) y.2.1),(.tv (.sl (.st 1)) y.2.2.1)])) (d1:=(y.2.2.2.1,y.2.2.2.2,())) (E:=(E34 L N)) (ts:=[(.sl (.int .u8)),i64]) (tr:=[]) (rs:=(.many [(.st 1),(.st 1),(.sl (.st 1))])) (κ:=(fun v d=>(unR (.many [(.st 1),(.st 1),(.sl (.st 1))]) v).bind fun x=>some (x.1,x.2.1,x.2.2,d.1,d.2.1))) (sound_of hΦ) okP (callI_sound (sound_of hΦ) okP 0 1000) (f:=Tryz.f34) rfl hs ho hd0 hr hu ?_ (fun _ _ h=>by obtain ⟨x,h1,h2⟩:=unR_bind h;obtain rfl:=Option.some.inj h2;exact ⟨h1,rfl⟩) site
  exact (f34.b_eq L N (fun v d=>(unR (.many [(.st 1),(.st 1),(.sl (.st 1))]) v).bind fun x=>some (x.1,x.2.1,x.2.2,d.1,d.2.1)) d0.1 d0.2.1).trans (Eq.trans (b:=f34.b L N (fun a0 a1 a2 a3 a4=>some (a0,a1,a2,a3,a4)) d0.1 d0.2.1) (by kernel_rfl) hy)
 ·intro y hy
  cases hy
def Φ34 (L N:Nat):Tells:=(addT (Φ63 L N) 34 (f34.ent L N))
theorem Φ34_ok (L N:Nat):TellsOk Tryz.prog (Φ34 L N):=addT_ok (Φ63_ok L N) (f34.ok L N (Φ63_ok L N))
def f10.b' (L N:Nat) (k:Tree->Tree->LT->Option R) (c:LI):Option R:=
 (f33 L N c).bind fun b=>
 (f34 L N b.1 b.2).bind fun a=>
 k (Tree.mk ((Tree.mk a.1.op a.1.n a.1.parts).op) ((Tree.mk a.1.op a.1.n a.1.parts).n) ((Tree.mk a.1.op a.1.n a.1.parts).parts)) (Tree.mk ((Tree.mk a.2.1.op a.2.1.n a.2.1.parts).op) ((Tree.mk a.2.1.op a.2.1.n a.2.1.parts).n) ((Tree.mk a.2.1.op a.2.1.n a.2.1.parts).parts)) a.2.2.1
def f10.b (L N:Nat) (k:Tree->Tree->LT->Option R) (a:LI):Option R:=
 f10.b' L N k a
def f10 (L N:Nat) (a:LI):Option (Tree×Tree×LT):=f10.b L N (fun a0 a1 a2=>some (a0,a1,a2)) a
def f10.ent (L N:Nat):=entDa [(.sl (.int .u8))] (.many [(.st 1),(.st 1),(.sl (.st 1))]) fun d=>f10 L N d.1
noncomputable def E10 (L N:Nat):Env:={P:=Tryz.prog,ty:=tyOf,Φ:=(Φ34 L N),inl:=inlT,live:=lives,liveX:=livesX,L:=L,dp:=none,prom:=promT,heal:=healT,ren:=renT}
theorem f10.b_eq (L N:Nat) (κ:AV->Option R) (a:LI):
  evBody (E10 L N) (evCallI (E10 L N) 0 1000) 1000 10 Tryz.f10 [(.tv (.sl (.int .u8)) a)] [] [] (finC (.many [(.st 1),(.st 1),(.sl (.st 1))]) κ)
  =f10.b L N (fun a0 a1 a2=>κ (.tup [(.tv (.st 1) a0),(.tv (.st 1) a1),(.tv (.sl (.st 1)) a2)])) a:=by kernel_rfl
theorem f10.ok (L N:Nat) (hΦ:TellsOk Tryz.prog ((Φ34 L N))):EntOk Tryz.prog 10 (f10.ent L N):=entDa_ok (E:=(E10 L N)) (dep:=1000) (f:=Tryz.f10) (sound_of hΦ) okP (callI_sound (sound_of hΦ) okP 0 1000) rfl fun d _ hy=>(f10.b_eq L N (unR (.many [(.st 1),(.st 1),(.sl (.st 1))])) d.1).trans (Eq.trans (b:=f10.b L N (fun a0 a1 a2=>some (a0,a1,a2)) d.1) (by kernel_rfl) hy)
def Φ10 (L N:Nat):Tells:=(addT (Φ34 L N) 10 (f10.ent L N))
theorem Φ10_ok (L N:Nat):TellsOk Tryz.prog (Φ10 L N):=addT_ok (Φ34_ok L N) (f10.ok L N (Φ34_ok L N))
def f81.s0' (L N:Nat) (self81:Tree->Int->Option (Int)) (k0_e0:Int->Option R) (k0_r:Int->Int->Option R) (rec0:Int->Int->LT->Int->Int->Option R) (d b:Int) (c:LT) (e a:Int):Option R:=
 bif (decide (a<e)) then
  bif (decide (0≤a)&&decide (a<(c.length:Int))) then
   bif (decide (b>d)) then
    k0_r b b
   else (self81 (Tree.mk ((listAt c (Ty.dflt (.st 1)) a.toNat).op) ((listAt c (Ty.dflt (.st 1)) a.toNat).n) ((listAt c (Ty.dflt (.st 1)) a.toNat).parts)) (wi (d-b))).bind fun f=>
   rec0 d (wi (b+f)) c e (wi (a+(1:Int)))
  else none
 else k0_e0 b
def f81.s0 (L N:Nat) (self81:Tree->Int->Option (Int)) (k0_e0:Int->Option R) (k0_r:Int->Int->Option R) (rec0:Int->Int->LT->Int->Int->Option R) (a b:Int) (c:LT) (d e:Int):Option R:=
 f81.s0' L N self81 k0_e0 k0_r rec0 a b c d e
def f81.l0 (L N:Nat) (self81:Tree->Int->Option (Int)) (k0_e0:Int->Option R) (k0_r:Int->Int->Option R):Nat->Int->Int->LT->Int->Int->Option R
 |0,_,_,_,_,_=>none
 |n+1,a,b,c,d,e=>f81.s0 L N self81 k0_e0 k0_r (f81.l0 L N self81 k0_e0 k0_r n) a b c d e
def f81.T0 (a b:Int) (c:LT) (d e:Int):T:=mkT 28 [(1,(.tv i64 a)),(5,(.tv i64 b)),(9,(.tv (.sl (.st 1)) c)),(10,(.tv i64 d)),(11,(.tv i64 e))]
def f81.H0 (a b:Int) (c:LT) (d e:Int):H:=[]
def f81.T0_e0 (a:Int):T:=mkT 28 [(5,(.tv i64 a))]
def f81.H0_e0 (a:Int):H:=[]
def f81.T0_r (a b:Int):T:=mkT 28 [(4,(.tv i64 a)),(5,(.tv i64 b))]
def f81.H0_r (a b:Int):H:=[]
def f81.p0_e0' (L N:Nat) (self81:Tree->Int->Option (Int)) (k:Int->Option R) (a:Int):Option R:=
 k a
def f81.p0_e0 (L N:Nat) (self81:Tree->Int->Option (Int)) (k:Int->Option R) (a:Int):Option R:=
 f81.p0_e0' L N self81 k a
def f81.p0_r' (L N:Nat) (self81:Tree->Int->Option (Int)) (k:Int->Option R) (a b:Int):Option R:=
 k a
def f81.p0_r (L N:Nat) (self81:Tree->Int->Option (Int)) (k:Int->Option R) (a b:Int):Option R:=
 f81.p0_r' L N self81 k a b
def f81.b' (L N:Nat) (self81:Tree->Int->Option (Int)) (k:Int->Option R) (b:Int->Int->LT->Int->Int->Option R) (a:Tree) (c:Int):Option R:=
 b c (1:Int) a.parts (a.parts.length:Int) (0:Int)
def f81.b (L N:Nat) (self81:Tree->Int->Option (Int)) (k:Int->Option R) (a:Tree) (c:Int):Option R:=
 f81.b' L N self81 k (fun d e f g h=>f81.l0 L N self81 (fun i=>f81.p0_e0 L N self81 k i) (fun j l=>f81.p0_r L N self81 k j l) L d e f g h) a c
def f81 (L N:Nat):Nat->Tree->Int->Option (Int)
 |0,_,_=>none
 |n+1,a,c=>f81.b L N (f81 L N n) some a c
def f81.ent (L N m:Nat):=entRo [(.st 1),i64] (.one i64) fun d=>f81 L N m d.1 d.2.1
def Φ81s (L N m:Nat):Tells:=(addT (Φ10 L N) 81 (f81.ent L N m))
noncomputable def E81 (L N m:Nat):Env:={P:=Tryz.prog,ty:=tyOf,Φ:=Φ81s L N m,inl:=inlT,live:=lives,liveX:=livesX,L:=L,dp:=none,prom:=promT,heal:=healT,ren:=renT}
noncomputable def f81.c0:Code:=loopAt 0 (codeOf Tryz.f81)
def f81.X0_e0 (κ:KX R):=fun a=>κ (.exit 0) (f81.T0_e0 a) (f81.H0_e0 a)
def f81.X0_r (κ:KX R):=fun a b=>κ .ret (f81.T0_r a b) (f81.H0_r a b)
def f81.R0 (rec:KT R):=fun a b c d e=>rec (f81.T0 a b c d e) (f81.H0 a b c d e)
theorem f81.s0_eq (L N m:Nat) (κ:KX R) (rec:KT R) (a b:Int) (c:LT) (d e:Int):
  evRd (E81 L N m) (evCallI (E81 L N m) 0 1000) 1000 81 28 0 f81.c0 κ rec (f81.T0 a b c d e) (f81.H0 a b c d e)
  =f81.s0 L N (f81 L N m) (f81.X0_e0 κ) (f81.X0_r κ) (f81.R0 rec) a b c d e:=by kernel_rfl
theorem f81.l0_eq (L N m:Nat) (κ:KX R):∀(n:Nat) (a b:Int) (c:LT) (d e:Int),
  evLp (E81 L N m) (evCallI (E81 L N m) 0 1000) 1000 81 28 0 f81.c0 κ n (f81.T0 a b c d e) (f81.H0 a b c d e)
  =f81.l0 L N (f81 L N m) (f81.X0_e0 κ) (f81.X0_r κ) n a b c d e:=by
 intro n
 induction n with
 |zero=>intros;rfl
 |succ n ih=>
  intro a b c d e
  rw [evLp_succ,f81.s0_eq]
  delta f81.R0
  simp only [ih]
  rfl
theorem f81.p0_e0_eq (L N m:Nat) (κ:AV->Option R) (a:Int):
  (contAt (E81 L N m) (evCallI (E81 L N m) 0 1000) 1000 81 28 0 (codeOf Tryz.f81) (finK (E81 L N m) 1000 Tryz.f81 (finC (.one i64) κ))) (.exit 0) (f81.T0_e0 a) (f81.H0_e0 a)
  =f81.p0_e0 L N (f81 L N m) (fun a0=>κ (.tv i64 a0)) a:=by kernel_rfl
theorem f81.p0_r_eq (L N m:Nat) (κ:AV->Option R) (a b:Int):
  (contAt (E81 L N m) (evCallI (E81 L N m) 0 1000) 1000 81 28 0 (codeOf Tryz.f81) (finK (E81 L N m) 1000 Tryz.f81 (finC (.one i64) κ))) .ret (f81.T0_r a b) (f81.H0_r a b)
  =f81.p0_r L N (f81 L N m) (fun a0=>κ (.tv i64 a0)) a b:=by kernel_rfl
theorem f81.b_eq (L N m:Nat) (κ:AV->Option R) (a:Tree) (c:Int):
  evBody (E81 L N m) (evCallI (E81 L N m) 0 1000) 1000 81 Tryz.f81 [(.tv (.st 1) a),(.tv i64 c)] [] [] (finC (.one i64) κ)
  =f81.b L N (f81 L N m) (fun a0=>κ (.tv i64 a0)) a c:=by
 refine Eq.trans (b:=f81.b' L N (f81 L N m) (fun a0=>κ (.tv i64 a0)) (fun d e f g h=>evLp (E81 L N m) (evCallI (E81 L N m) 0 1000) 1000 81 28 0 f81.c0 (contAt (E81 L N m) (evCallI (E81 L N m) 0 1000) 1000 81 28 0 (codeOf Tryz.f81) (finK (E81 L N m) 1000 Tryz.f81 (finC (.one i64) κ))) L (f81.T0 d e f g h) (f81.H0 d e f g h)) a c) (by kernel_rfl) ?_
 unfold f81.b
 simp only [f81.l0_eq]
 delta f81.X0_e0 f81.X0_r
 simp only [f81.p0_e0_eq,f81.p0_r_eq]
theorem f81.ok (L N m:Nat) (hΦ:TellsOk Tryz.prog (Φ81s L N m)):EntOk Tryz.prog 81 (f81.ent L N (m+1)):=entRo_ok (E:=(E81 L N m)) (dep:=1000) (f:=Tryz.f81) (sound_of hΦ) okP (callI_sound (sound_of hΦ) okP 0 1000) rfl rfl fun d _ hy=>(f81.b_eq L N m (unR (.one i64)) d.1 d.2.1).trans (Eq.trans (b:=f81.b L N (f81 L N m) some d.1 d.2.1) (by kernel_rfl) hy)
theorem Φ81s_ok (L N:Nat):∀m,TellsOk Tryz.prog (Φ81s L N m):=by
 intro m
 induction m with
 |zero=>exact (addT_ok (Φ10_ok L N) (entRo_no fun _=>rfl))
 |succ m ih=>exact (addT_ok (Φ10_ok L N) (f81.ok L N m ih))
def Φ81 (L N:Nat):Tells:=(addT (Φ10 L N) 81 (f81.ent L N N))
theorem Φ81_ok (L N:Nat):TellsOk Tryz.prog (Φ81 L N):=Φ81s_ok L N N
def f121.b' (L N:Nat) (k:Bool->Option R) (a:Int):Option R:=
 bif (decide (a≥(-4:Int))) then
  k (decide (a≤(4:Int)))
 else k false
def f121.b (L N:Nat) (k:Bool->Option R) (a:Int):Option R:=
 f121.b' L N k a
def f121 (L N:Nat) (a:Int):Option (Bool):=f121.b L N some a
def f121.ent (L N:Nat):=entRo [i64] (.one .bool) fun d=>f121 L N d.1
noncomputable def E121 (L N:Nat):Env:={P:=Tryz.prog,ty:=tyOf,Φ:=(Φ81 L N),inl:=inlT,live:=lives,liveX:=livesX,L:=L,dp:=none,prom:=promT,heal:=healT,ren:=renT}
theorem f121.b_eq (L N:Nat) (κ:AV->Option R) (a:Int):
  evBody (E121 L N) (evCallI (E121 L N) 0 1000) 1000 121 Tryz.f121 [(.tv i64 a)] [] [] (finC (.one .bool) κ)
  =f121.b L N (fun a0=>κ (.tv .bool a0)) a:=by kernel_rfl
theorem f121.ok (L N:Nat) (hΦ:TellsOk Tryz.prog ((Φ81 L N))):EntOk Tryz.prog 121 (f121.ent L N):=entRo_ok (E:=(E121 L N)) (dep:=1000) (f:=Tryz.f121) (sound_of hΦ) okP (callI_sound (sound_of hΦ) okP 0 1000) rfl rfl fun d _ hy=>(f121.b_eq L N (unR (.one .bool)) d.1).trans (Eq.trans (b:=f121.b L N some d.1) (by kernel_rfl) hy)
def Φ121 (L N:Nat):Tells:=(addT (Φ81 L N) 121 (f121.ent L N))
theorem Φ121_ok (L N:Nat):TellsOk Tryz.prog (Φ121 L N):=addT_ok (Φ81_ok L N) (f121.ok L N (Φ81_ok L N))
def f122.b' (L N:Nat) (k:Bool->Option R) (a:Int):Option R:=
 bif (decide (a≥(0:Int))) then
  k (decide (a<(4:Int)))
 else k false
def f122.b (L N:Nat) (k:Bool->Option R) (a:Int):Option R:=
 f122.b' L N k a
def f122 (L N:Nat) (a:Int):Option (Bool):=f122.b L N some a
def f122.ent (L N:Nat):=entRo [i64] (.one .bool) fun d=>f122 L N d.1
noncomputable def E122 (L N:Nat):Env:={P:=Tryz.prog,ty:=tyOf,Φ:=(Φ121 L N),inl:=inlT,live:=lives,liveX:=livesX,L:=L,dp:=none,prom:=promT,heal:=healT,ren:=renT}
theorem f122.b_eq (L N:Nat) (κ:AV->Option R) (a:Int):
  evBody (E122 L N) (evCallI (E122 L N) 0 1000) 1000 122 Tryz.f122 [(.tv i64 a)] [] [] (finC (.one .bool) κ)
  =f122.b L N (fun a0=>κ (.tv .bool a0)) a:=by kernel_rfl
theorem f122.ok (L N:Nat) (hΦ:TellsOk Tryz.prog ((Φ121 L N))):EntOk Tryz.prog 122 (f122.ent L N):=entRo_ok (E:=(E122 L N)) (dep:=1000) (f:=Tryz.f122) (sound_of hΦ) okP (callI_sound (sound_of hΦ) okP 0 1000) rfl rfl fun d _ hy=>(f122.b_eq L N (unR (.one .bool)) d.1).trans (Eq.trans (b:=f122.b L N some d.1) (by kernel_rfl) hy)
def Φ122 (L N:Nat):Tells:=(addT (Φ121 L N) 122 (f122.ent L N))
theorem Φ122_ok (L N:Nat):TellsOk Tryz.prog (Φ122 L N):=addT_ok (Φ121_ok L N) (f122.ok L N (Φ121_ok L N))
def f82.j1' (L N:Nat) (self82:Tree->Option (Bool)) (self123:Tree->Option (Bool)) (self90_2:LT->Option (Bool)) (self129_2:LT->Option (Int)) (k:Bool->Option R) (b d e:Int) (a:LT):Option R:=
 bif ((a.length:Int)==b) then
  (self90_2 a).bind fun c=>
  k (!c)
 else k false
def f82.j0' (L N:Nat) (self82:Tree->Option (Bool)) (self123:Tree->Option (Bool)) (self90_2:LT->Option (Bool)) (self129_2:LT->Option (Int)) (k:Bool->Option R) (e d:Int) (f:Bool) (b a:Int) (c:LT):Option R:=
 bif f then
  bif (a !=(0:Int)) then
   k false
  else f82.j1' L N self82 self123 self90_2 self129_2 k (2:Int) b a c
 else bif (d==(4:Int)) then
  (f122 L N a).bind fun g=>
  bif (!g) then
   k false
  else f82.j1' L N self82 self123 self90_2 self129_2 k (1:Int) b a c
 else bif (d==(5:Int)) then
  bif (decide (a<(0:Int))) then
   k false
  else bif (decide (a≥(3:Int))) then
   k false
  else f82.j1' L N self82 self123 self90_2 self129_2 k e b a c
 else k false
def f82.b' (L N:Nat) (self82:Tree->Option (Bool)) (self123:Tree->Option (Bool)) (self90_2:LT->Option (Bool)) (self129_2:LT->Option (Int)) (k:Bool->Option R) (a:Tree):Option R:=
 bif (a.op==(0:Int)) then
  bif (a.n !=(0:Int)) then
   k false
  else f82.j1' L N self82 self123 self90_2 self129_2 k (0:Int) a.op a.n a.parts
 else bif (a.op==(1:Int)) then
  (f121 L N a.n).bind fun b=>
  bif (!b) then
   k false
  else f82.j1' L N self82 self123 self90_2 self129_2 k (1:Int) a.op a.n a.parts
 else bif (a.op==(2:Int)) then
  f82.j0' L N self82 self123 self90_2 self129_2 k (0:Int) a.op (a.op==(2:Int)) a.op a.n a.parts
 else f82.j0' L N self82 self123 self90_2 self129_2 k (0:Int) a.op (a.op==(3:Int)) a.op a.n a.parts
def f82.b (L N:Nat) (self82:Tree->Option (Bool)) (self123:Tree->Option (Bool)) (self90_2:LT->Option (Bool)) (self129_2:LT->Option (Int)) (k:Bool->Option R) (a:Tree):Option R:=
 f82.b' L N self82 self123 self90_2 self129_2 k a
def f123.b' (L N:Nat) (self82:Tree->Option (Bool)) (self123:Tree->Option (Bool)) (self90_2:LT->Option (Bool)) (self129_2:LT->Option (Int)) (k:Bool->Option R) (a:Tree):Option R:=
 (self82 (Tree.mk a.op a.n a.parts)).bind fun b=>
 k (!b)
def f123.b (L N:Nat) (self82:Tree->Option (Bool)) (self123:Tree->Option (Bool)) (self90_2:LT->Option (Bool)) (self129_2:LT->Option (Int)) (k:Bool->Option R) (a:Tree):Option R:=
 f123.b' L N self82 self123 self90_2 self129_2 k a
def f90_2.b' (L N:Nat) (self82:Tree->Option (Bool)) (self123:Tree->Option (Bool)) (self90_2:LT->Option (Bool)) (self129_2:LT->Option (Int)) (k:Bool->Option R) (a:LT):Option R:=
 (self129_2 a).bind fun b=>
 k (decide (b≥(0:Int)))
def f90_2.b (L N:Nat) (self82:Tree->Option (Bool)) (self123:Tree->Option (Bool)) (self90_2:LT->Option (Bool)) (self129_2:LT->Option (Int)) (k:Bool->Option R) (a:LT):Option R:=
 f90_2.b' L N self82 self123 self90_2 self129_2 k a
def f129_2.s0' (L N:Nat) (self82:Tree->Option (Bool)) (self123:Tree->Option (Bool)) (self90_2:LT->Option (Bool)) (self129_2:LT->Option (Int)) (k0_e0:Option R) (k0_r:Int->Option R) (rec0:LT->Int->Int->Option R) (b:LT) (c a:Int):Option R:=
 bif (decide (a<c)) then
  bif (decide (0≤a)&&decide (a<(b.length:Int))) then
   (self123 (listAt b (Ty.dflt (.st 1)) a.toNat)).bind fun d=>
   bif d then
    k0_r a
   else rec0 b c (wi (a+(1:Int)))
  else none
 else k0_e0
def f129_2.s0 (L N:Nat) (self82:Tree->Option (Bool)) (self123:Tree->Option (Bool)) (self90_2:LT->Option (Bool)) (self129_2:LT->Option (Int)) (k0_e0:Option R) (k0_r:Int->Option R) (rec0:LT->Int->Int->Option R) (a:LT) (b c:Int):Option R:=
 f129_2.s0' L N self82 self123 self90_2 self129_2 k0_e0 k0_r rec0 a b c
def f129_2.l0 (L N:Nat) (self82:Tree->Option (Bool)) (self123:Tree->Option (Bool)) (self90_2:LT->Option (Bool)) (self129_2:LT->Option (Int)) (k0_e0:Option R) (k0_r:Int->Option R):Nat->LT->Int->Int->Option R
 |0,_,_,_=>none
 |n+1,a,b,c=>f129_2.s0 L N self82 self123 self90_2 self129_2 k0_e0 k0_r (f129_2.l0 L N self82 self123 self90_2 self129_2 k0_e0 k0_r n) a b c
def f129_2.T0 (a:LT) (b c:Int):T:=mkT 19 [(0,(.tv (.sl (.st 1)) a)),(1,(.fn 123 [])),(7,(.tv i64 b)),(8,(.tv i64 c))]
def f129_2.H0 (a:LT) (b c:Int):H:=[]
def f129_2.T0_e0:T:=mkT 19 []
def f129_2.H0_e0:H:=[]
def f129_2.T0_r (a:Int):T:=mkT 19 [(4,(.tv i64 a))]
def f129_2.H0_r (a:Int):H:=[]
def f129_2.p0_e0' (L N:Nat) (self82:Tree->Option (Bool)) (self123:Tree->Option (Bool)) (self90_2:LT->Option (Bool)) (self129_2:LT->Option (Int)) (k:Int->Option R):Option R:=
 k (-1:Int)
def f129_2.p0_e0 (L N:Nat) (self82:Tree->Option (Bool)) (self123:Tree->Option (Bool)) (self90_2:LT->Option (Bool)) (self129_2:LT->Option (Int)) (k:Int->Option R):Option R:=
 f129_2.p0_e0' L N self82 self123 self90_2 self129_2 k
def f129_2.p0_r' (L N:Nat) (self82:Tree->Option (Bool)) (self123:Tree->Option (Bool)) (self90_2:LT->Option (Bool)) (self129_2:LT->Option (Int)) (k:Int->Option R) (a:Int):Option R:=
 k a
def f129_2.p0_r (L N:Nat) (self82:Tree->Option (Bool)) (self123:Tree->Option (Bool)) (self90_2:LT->Option (Bool)) (self129_2:LT->Option (Int)) (k:Int->Option R) (a:Int):Option R:=
 f129_2.p0_r' L N self82 self123 self90_2 self129_2 k a
def f129_2.b' (L N:Nat) (self82:Tree->Option (Bool)) (self123:Tree->Option (Bool)) (self90_2:LT->Option (Bool)) (self129_2:LT->Option (Int)) (k:Int->Option R) (b:LT->Int->Int->Option R) (a:LT):Option R:=
 b a (a.length:Int) (0:Int)
def f129_2.b (L N:Nat) (self82:Tree->Option (Bool)) (self123:Tree->Option (Bool)) (self90_2:LT->Option (Bool)) (self129_2:LT->Option (Int)) (k:Int->Option R) (a:LT):Option R:=
 f129_2.b' L N self82 self123 self90_2 self129_2 k (fun c d e=>f129_2.l0 L N self82 self123 self90_2 self129_2 (f129_2.p0_e0 L N self82 self123 self90_2 self129_2 k) (fun f=>f129_2.p0_r L N self82 self123 self90_2 self129_2 k f) L c d e) a
mutual
def f82 (L N:Nat):Nat->Tree->Option (Bool)
 |0,_=>none
 |n+1,a=>f82.b L N (f82 L N n) (f123 L N n) (f90_2 L N n) (f129_2 L N n) some a
def f123 (L N:Nat):Nat->Tree->Option (Bool)
 |0,_=>none
 |n+1,a=>f123.b L N (f82 L N n) (f123 L N n) (f90_2 L N n) (f129_2 L N n) some a
def f90_2 (L N:Nat):Nat->LT->Option (Bool)
 |0,_=>none
 |n+1,a=>f90_2.b L N (f82 L N n) (f123 L N n) (f90_2 L N n) (f129_2 L N n) some a
def f129_2 (L N:Nat):Nat->LT->Option (Int)
 |0,_=>none
 |n+1,a=>f129_2.b L N (f82 L N n) (f123 L N n) (f90_2 L N n) (f129_2 L N n) some a
end
def f82.ent (L N m:Nat):=entRo [(.st 1)] (.one .bool) fun d=>f82 L N m d.1
def f123.ent (L N m:Nat):=entRo [(.st 1)] (.one .bool) fun d=>f123 L N m d.1
def f90_2.ent (L N m:Nat):=entRf [(.dat (.sl (.st 1))),(.fn 123 [])] (.one .bool) fun d=>f90_2 L N m d.1
def f129_2.ent (L N m:Nat):=entRf [(.dat (.sl (.st 1))),(.fn 123 [])] (.one i64) fun d=>f129_2 L N m d.1
def Φ82s (L N m:Nat):Tells:=(addO (addO (addT (addT (Φ122 L N) 82 (f82.ent L N m)) 123 (f123.ent L N m)) 90 (f90_2.ent L N m)) 129 (f129_2.ent L N m))
noncomputable def E82 (L N m:Nat):Env:={P:=Tryz.prog,ty:=tyOf,Φ:=Φ82s L N m,inl:=inlT,live:=lives,liveX:=livesX,L:=L,dp:=none,prom:=promT,heal:=healT,ren:=renT}
theorem f82.b_eq (L N m:Nat) (κ:AV->Option R) (a:Tree):
  evBody (E82 L N m) (evCallI (E82 L N m) 0 1000) 1000 82 Tryz.f82 [(.tv (.st 1) a)] [] [] (finC (.one .bool) κ)
  =f82.b L N (f82 L N m) (f123 L N m) (f90_2 L N m) (f129_2 L N m) (fun a0=>κ (.tv .bool a0)) a:=by kernel_rfl
theorem f123.b_eq (L N m:Nat) (κ:AV->Option R) (a:Tree):
  evBody (E82 L N m) (evCallI (E82 L N m) 0 1000) 1000 123 Tryz.f123 [(.tv (.st 1) a)] [] [] (finC (.one .bool) κ)
  =f123.b L N (f82 L N m) (f123 L N m) (f90_2 L N m) (f129_2 L N m) (fun a0=>κ (.tv .bool a0)) a:=by kernel_rfl
theorem f90_2.b_eq (L N m:Nat) (κ:AV->Option R) (a:LT):
  evBody (E82 L N m) (evCallI (E82 L N m) 0 1000) 1000 90 Tryz.f90 [(.tv (.sl (.st 1)) a),(.fn 123 [])] [] [] (finC (.one .bool) κ)
  =f90_2.b L N (f82 L N m) (f123 L N m) (f90_2 L N m) (f129_2 L N m) (fun a0=>κ (.tv .bool a0)) a:=by kernel_rfl
noncomputable def f129_2.c0:Code:=loopAt 0 (codeOf Tryz.f129)
def f129_2.X0_e0 (κ:KX R):=κ (.exit 0) f129_2.T0_e0 f129_2.H0_e0
def f129_2.X0_r (κ:KX R):=fun a=>κ .ret (f129_2.T0_r a) (f129_2.H0_r a)
def f129_2.R0 (rec:KT R):=fun a b c=>rec (f129_2.T0 a b c) (f129_2.H0 a b c)
theorem f129_2.s0_eq (L N m:Nat) (κ:KX R) (rec:KT R) (a:LT) (b c:Int):
  evRd (E82 L N m) (evCallI (E82 L N m) 0 1000) 1000 129 19 0 f129_2.c0 κ rec (f129_2.T0 a b c) (f129_2.H0 a b c)
  =f129_2.s0 L N (f82 L N m) (f123 L N m) (f90_2 L N m) (f129_2 L N m) (f129_2.X0_e0 κ) (f129_2.X0_r κ) (f129_2.R0 rec) a b c:=by kernel_rfl
theorem f129_2.l0_eq (L N m:Nat) (κ:KX R):∀(n:Nat) (a:LT) (b c:Int),
  evLp (E82 L N m) (evCallI (E82 L N m) 0 1000) 1000 129 19 0 f129_2.c0 κ n (f129_2.T0 a b c) (f129_2.H0 a b c)
  =f129_2.l0 L N (f82 L N m) (f123 L N m) (f90_2 L N m) (f129_2 L N m) (f129_2.X0_e0 κ) (f129_2.X0_r κ) n a b c:=by
 intro n
 induction n with
 |zero=>intros;rfl
 |succ n ih=>
  intro a b c
  rw [evLp_succ,f129_2.s0_eq]
  delta f129_2.R0
  simp only [ih]
  rfl
theorem f129_2.p0_e0_eq (L N m:Nat) (κ:AV->Option R):
  (contAt (E82 L N m) (evCallI (E82 L N m) 0 1000) 1000 129 19 0 (codeOf Tryz.f129) (finK (E82 L N m) 1000 Tryz.f129 (finC (.one i64) κ))) (.exit 0) f129_2.T0_e0 f129_2.H0_e0
  =f129_2.p0_e0 L N (f82 L N m) (f123 L N m) (f90_2 L N m) (f129_2 L N m) (fun a0=>κ (.tv i64 a0)):=by kernel_rfl
theorem f129_2.p0_r_eq (L N m:Nat) (κ:AV->Option R) (a:Int):
  (contAt (E82 L N m) (evCallI (E82 L N m) 0 1000) 1000 129 19 0 (codeOf Tryz.f129) (finK (E82 L N m) 1000 Tryz.f129 (finC (.one i64) κ))) .ret (f129_2.T0_r a) (f129_2.H0_r a)
  =f129_2.p0_r L N (f82 L N m) (f123 L N m) (f90_2 L N m) (f129_2 L N m) (fun a0=>κ (.tv i64 a0)) a:=by kernel_rfl
theorem f129_2.b_eq (L N m:Nat) (κ:AV->Option R) (a:LT):
  evBody (E82 L N m) (evCallI (E82 L N m) 0 1000) 1000 129 Tryz.f129 [(.tv (.sl (.st 1)) a),(.fn 123 [])] [] [] (finC (.one i64) κ)
  =f129_2.b L N (f82 L N m) (f123 L N m) (f90_2 L N m) (f129_2 L N m) (fun a0=>κ (.tv i64 a0)) a:=by
 refine Eq.trans (b:=f129_2.b' L N (f82 L N m) (f123 L N m) (f90_2 L N m) (f129_2 L N m) (fun a0=>κ (.tv i64 a0)) (fun c d e=>evLp (E82 L N m) (evCallI (E82 L N m) 0 1000) 1000 129 19 0 f129_2.c0 (contAt (E82 L N m) (evCallI (E82 L N m) 0 1000) 1000 129 19 0 (codeOf Tryz.f129) (finK (E82 L N m) 1000 Tryz.f129 (finC (.one i64) κ))) L (f129_2.T0 c d e) (f129_2.H0 c d e)) a) (by kernel_rfl) ?_
 unfold f129_2.b
 simp only [f129_2.l0_eq]
 delta f129_2.X0_e0 f129_2.X0_r
 simp only [f129_2.p0_e0_eq,f129_2.p0_r_eq]
theorem f82.ok (L N m:Nat) (hΦ:TellsOk Tryz.prog (Φ82s L N m)):EntOk Tryz.prog 82 (f82.ent L N (m+1)):=entRo_ok (E:=(E82 L N m)) (dep:=1000) (f:=Tryz.f82) (sound_of hΦ) okP (callI_sound (sound_of hΦ) okP 0 1000) rfl rfl fun d _ hy=>(f82.b_eq L N m (unR (.one .bool)) d.1).trans (Eq.trans (b:=f82.b L N (f82 L N m) (f123 L N m) (f90_2 L N m) (f129_2 L N m) some d.1) (by kernel_rfl) hy)
theorem f123.ok (L N m:Nat) (hΦ:TellsOk Tryz.prog (Φ82s L N m)):EntOk Tryz.prog 123 (f123.ent L N (m+1)):=entRo_ok (E:=(E82 L N m)) (dep:=1000) (f:=Tryz.f123) (sound_of hΦ) okP (callI_sound (sound_of hΦ) okP 0 1000) rfl rfl fun d _ hy=>(f123.b_eq L N m (unR (.one .bool)) d.1).trans (Eq.trans (b:=f123.b L N (f82 L N m) (f123 L N m) (f90_2 L N m) (f129_2 L N m) some d.1) (by kernel_rfl) hy)
theorem f90_2.ok (L N m:Nat) (hΦ:TellsOk Tryz.prog (Φ82s L N m)):EntOkO Tryz.prog 90 (f90_2.ent L N (m+1)):=entRf_ok (E:=(E82 L N m)) (dep:=1000) (f:=Tryz.f90) (sound_of hΦ) okP (callI_sound (sound_of hΦ) okP 0 1000) rfl rfl fun d _ hy=>(f90_2.b_eq L N m (unR (.one .bool)) d.1).trans (Eq.trans (b:=f90_2.b L N (f82 L N m) (f123 L N m) (f90_2 L N m) (f129_2 L N m) some d.1) (by kernel_rfl) hy)
theorem f129_2.ok (L N m:Nat) (hΦ:TellsOk Tryz.prog (Φ82s L N m)):EntOkO Tryz.prog 129 (f129_2.ent L N (m+1)):=entRf_ok (E:=(E82 L N m)) (dep:=1000) (f:=Tryz.f129) (sound_of hΦ) okP (callI_sound (sound_of hΦ) okP 0 1000) rfl rfl fun d _ hy=>(f129_2.b_eq L N m (unR (.one i64)) d.1).trans (Eq.trans (b:=f129_2.b L N (f82 L N m) (f123 L N m) (f90_2 L N m) (f129_2 L N m) some d.1) (by kernel_rfl) hy)
theorem Φ82s_ok (L N:Nat):∀m,TellsOk Tryz.prog (Φ82s L N m):=by
 intro m
 induction m with
 |zero=>exact (addO_ok (addO_ok (addT_ok (addT_ok (Φ122_ok L N) (entRo_no fun _=>rfl)) (entRo_no fun _=>rfl)) (entRf_no fun _=>rfl)) (entRf_no fun _=>rfl))
 |succ m ih=>exact (addO_ok (addO_ok (addT_ok (addT_ok (Φ122_ok L N) (f82.ok L N m ih)) (f123.ok L N m ih)) (f90_2.ok L N m ih)) (f129_2.ok L N m ih))
def Φ82 (L N:Nat):Tells:=(addO (addO (addT (addT (Φ122 L N) 82 (f82.ent L N N)) 123 (f123.ent L N N)) 90 (f90_2.ent L N N)) 129 (f129_2.ent L N N))
theorem Φ82_ok (L N:Nat):TellsOk Tryz.prog (Φ82 L N):=Φ82s_ok L N N
def f50.b' (L N:Nat) (k:Bool->Option R) (a:Tree):Option R:=
 (f81 L N N (Tree.mk a.op a.n a.parts) (24:Int)).bind fun b=>
 bif (decide (b≤(24:Int))) then
  (f82 L N N (Tree.mk a.op a.n a.parts)).bind fun c=>
  k c
 else k false
def f50.b (L N:Nat) (k:Bool->Option R) (a:Tree):Option R:=
 f50.b' L N k a
def f50 (L N:Nat) (a:Tree):Option (Bool):=f50.b L N some a
def f50.ent (L N:Nat):=entRo [(.st 1)] (.one .bool) fun d=>f50 L N d.1
noncomputable def E50 (L N:Nat):Env:={P:=Tryz.prog,ty:=tyOf,Φ:=(Φ82 L N),inl:=inlT,live:=lives,liveX:=livesX,L:=L,dp:=none,prom:=promT,heal:=healT,ren:=renT}
theorem f50.b_eq (L N:Nat) (κ:AV->Option R) (a:Tree):
  evBody (E50 L N) (evCallI (E50 L N) 0 1000) 1000 50 Tryz.f50 [(.tv (.st 1) a)] [] [] (finC (.one .bool) κ)
  =f50.b L N (fun a0=>κ (.tv .bool a0)) a:=by kernel_rfl
theorem f50.ok (L N:Nat) (hΦ:TellsOk Tryz.prog ((Φ82 L N))):EntOk Tryz.prog 50 (f50.ent L N):=entRo_ok (E:=(E50 L N)) (dep:=1000) (f:=Tryz.f50) (sound_of hΦ) okP (callI_sound (sound_of hΦ) okP 0 1000) rfl rfl fun d _ hy=>(f50.b_eq L N (unR (.one .bool)) d.1).trans (Eq.trans (b:=f50.b L N some d.1) (by kernel_rfl) hy)
def Φ50 (L N:Nat):Tells:=(addT (Φ82 L N) 50 (f50.ent L N))
theorem Φ50_ok (L N:Nat):TellsOk Tryz.prog (Φ50 L N):=addT_ok (Φ82_ok L N) (f50.ok L N (Φ82_ok L N))
def f141.b' (L N:Nat) (self141:Tree->Int->Option (Bool)) (self90_3:LT->Int->Option (Bool)) (self129_3:LT->Int->Option (Int)) (self175_1:Tree->Int->Option (Bool)) (k:Bool->Option R) (a:Tree) (b:Int):Option R:=
 bif (a.op !=(5:Int)) then
  (self90_3 a.parts b).bind fun c=>
  k (!c)
 else bif (decide (a.n<b)) then
  (self90_3 a.parts b).bind fun d=>
  k (!d)
 else k false
def f141.b (L N:Nat) (self141:Tree->Int->Option (Bool)) (self90_3:LT->Int->Option (Bool)) (self129_3:LT->Int->Option (Int)) (self175_1:Tree->Int->Option (Bool)) (k:Bool->Option R) (a:Tree) (c:Int):Option R:=
 f141.b' L N self141 self90_3 self129_3 self175_1 k a c
def f90_3.b' (L N:Nat) (self141:Tree->Int->Option (Bool)) (self90_3:LT->Int->Option (Bool)) (self129_3:LT->Int->Option (Int)) (self175_1:Tree->Int->Option (Bool)) (k:Bool->Option R) (a:LT) (b:Int):Option R:=
 (self129_3 a b).bind fun c=>
 k (decide (c≥(0:Int)))
def f90_3.b (L N:Nat) (self141:Tree->Int->Option (Bool)) (self90_3:LT->Int->Option (Bool)) (self129_3:LT->Int->Option (Int)) (self175_1:Tree->Int->Option (Bool)) (k:Bool->Option R) (a:LT) (c:Int):Option R:=
 f90_3.b' L N self141 self90_3 self129_3 self175_1 k a c
def f129_3.s0' (L N:Nat) (self141:Tree->Int->Option (Bool)) (self90_3:LT->Int->Option (Bool)) (self129_3:LT->Int->Option (Int)) (self175_1:Tree->Int->Option (Bool)) (k0_e0:Option R) (k0_r:Int->Option R) (rec0:LT->Int->Int->Int->Option R) (b:LT) (c d a:Int):Option R:=
 bif (decide (a<d)) then
  bif (decide (0≤a)&&decide (a<(b.length:Int))) then
   (self175_1 (listAt b (Ty.dflt (.st 1)) a.toNat) c).bind fun e=>
   bif e then
    k0_r a
   else rec0 b c d (wi (a+(1:Int)))
  else none
 else k0_e0
def f129_3.s0 (L N:Nat) (self141:Tree->Int->Option (Bool)) (self90_3:LT->Int->Option (Bool)) (self129_3:LT->Int->Option (Int)) (self175_1:Tree->Int->Option (Bool)) (k0_e0:Option R) (k0_r:Int->Option R) (rec0:LT->Int->Int->Int->Option R) (a:LT) (b c d:Int):Option R:=
 f129_3.s0' L N self141 self90_3 self129_3 self175_1 k0_e0 k0_r rec0 a b c d
def f129_3.l0 (L N:Nat) (self141:Tree->Int->Option (Bool)) (self90_3:LT->Int->Option (Bool)) (self129_3:LT->Int->Option (Int)) (self175_1:Tree->Int->Option (Bool)) (k0_e0:Option R) (k0_r:Int->Option R):Nat->LT->Int->Int->Int->Option R
 |0,_,_,_,_=>none
 |n+1,a,b,c,d=>f129_3.s0 L N self141 self90_3 self129_3 self175_1 k0_e0 k0_r (f129_3.l0 L N self141 self90_3 self129_3 self175_1 k0_e0 k0_r n) a b c d
def f129_3.T0 (a:LT) (b c d:Int):T:=mkT 19 [(0,(.tv (.sl (.st 1)) a)),(1,(.fn 175 [(.imp i64 b 0)])),(7,(.tv i64 c)),(8,(.tv i64 d))]
def f129_3.H0 (a:LT) (b c d:Int):H:=[]
def f129_3.T0_e0:T:=mkT 19 []
def f129_3.H0_e0:H:=[]
def f129_3.T0_r (a:Int):T:=mkT 19 [(4,(.tv i64 a))]
def f129_3.H0_r (a:Int):H:=[]
def f129_3.p0_e0' (L N:Nat) (self141:Tree->Int->Option (Bool)) (self90_3:LT->Int->Option (Bool)) (self129_3:LT->Int->Option (Int)) (self175_1:Tree->Int->Option (Bool)) (k:Int->Option R):Option R:=
 k (-1:Int)
def f129_3.p0_e0 (L N:Nat) (self141:Tree->Int->Option (Bool)) (self90_3:LT->Int->Option (Bool)) (self129_3:LT->Int->Option (Int)) (self175_1:Tree->Int->Option (Bool)) (k:Int->Option R):Option R:=
 f129_3.p0_e0' L N self141 self90_3 self129_3 self175_1 k
def f129_3.p0_r' (L N:Nat) (self141:Tree->Int->Option (Bool)) (self90_3:LT->Int->Option (Bool)) (self129_3:LT->Int->Option (Int)) (self175_1:Tree->Int->Option (Bool)) (k:Int->Option R) (a:Int):Option R:=
 k a
def f129_3.p0_r (L N:Nat) (self141:Tree->Int->Option (Bool)) (self90_3:LT->Int->Option (Bool)) (self129_3:LT->Int->Option (Int)) (self175_1:Tree->Int->Option (Bool)) (k:Int->Option R) (a:Int):Option R:=
 f129_3.p0_r' L N self141 self90_3 self129_3 self175_1 k a
def f129_3.b' (L N:Nat) (self141:Tree->Int->Option (Bool)) (self90_3:LT->Int->Option (Bool)) (self129_3:LT->Int->Option (Int)) (self175_1:Tree->Int->Option (Bool)) (k:Int->Option R) (b:LT->Int->Int->Int->Option R) (a:LT) (c:Int):Option R:=
 b a c (a.length:Int) (0:Int)
def f129_3.b (L N:Nat) (self141:Tree->Int->Option (Bool)) (self90_3:LT->Int->Option (Bool)) (self129_3:LT->Int->Option (Int)) (self175_1:Tree->Int->Option (Bool)) (k:Int->Option R) (a:LT) (c:Int):Option R:=
 f129_3.b' L N self141 self90_3 self129_3 self175_1 k (fun d e f g=>f129_3.l0 L N self141 self90_3 self129_3 self175_1 (f129_3.p0_e0 L N self141 self90_3 self129_3 self175_1 k) (fun h=>f129_3.p0_r L N self141 self90_3 self129_3 self175_1 k h) L d e f g) a c
def f175_1.b' (L N:Nat) (self141:Tree->Int->Option (Bool)) (self90_3:LT->Int->Option (Bool)) (self129_3:LT->Int->Option (Int)) (self175_1:Tree->Int->Option (Bool)) (k:Bool->Option R) (a:Tree) (b:Int):Option R:=
 (self141 (Tree.mk a.op a.n a.parts) b).bind fun c=>
 k (!c)
def f175_1.b (L N:Nat) (self141:Tree->Int->Option (Bool)) (self90_3:LT->Int->Option (Bool)) (self129_3:LT->Int->Option (Int)) (self175_1:Tree->Int->Option (Bool)) (k:Bool->Option R) (a:Tree) (c:Int):Option R:=
 f175_1.b' L N self141 self90_3 self129_3 self175_1 k a c
mutual
def f141 (L N:Nat):Nat->Tree->Int->Option (Bool)
 |0,_,_=>none
 |n+1,a,c=>f141.b L N (f141 L N n) (f90_3 L N n) (f129_3 L N n) (f175_1 L N n) some a c
def f90_3 (L N:Nat):Nat->LT->Int->Option (Bool)
 |0,_,_=>none
 |n+1,a,c=>f90_3.b L N (f141 L N n) (f90_3 L N n) (f129_3 L N n) (f175_1 L N n) some a c
def f129_3 (L N:Nat):Nat->LT->Int->Option (Int)
 |0,_,_=>none
 |n+1,a,c=>f129_3.b L N (f141 L N n) (f90_3 L N n) (f129_3 L N n) (f175_1 L N n) some a c
def f175_1 (L N:Nat):Nat->Tree->Int->Option (Bool)
 |0,_,_=>none
 |n+1,a,c=>f175_1.b L N (f141 L N n) (f90_3 L N n) (f129_3 L N n) (f175_1 L N n) some a c
end
def f141.ent (L N m:Nat):=entRo [(.st 1),i64] (.one .bool) fun d=>f141 L N m d.1 d.2.1
def f90_3.ent (L N m:Nat):=entRf [(.dat (.sl (.st 1))),(.fn 175 [(.imp i64 0)])] (.one .bool) fun d=>f90_3 L N m d.1 d.2.1.1
def f129_3.ent (L N m:Nat):=entRf [(.dat (.sl (.st 1))),(.fn 175 [(.imp i64 0)])] (.one i64) fun d=>f129_3 L N m d.1 d.2.1.1
def f175_1.ent (L N m:Nat):=entRf [(.dat (.st 1)),(.imp i64 0)] (.one .bool) fun d=>f175_1 L N m d.1 d.2.1
def Φ141s (L N m:Nat):Tells:=(addO (addO (addO (addT (Φ50 L N) 141 (f141.ent L N m)) 90 (f90_3.ent L N m)) 129 (f129_3.ent L N m)) 175 (f175_1.ent L N m))
noncomputable def E141 (L N m:Nat):Env:={P:=Tryz.prog,ty:=tyOf,Φ:=Φ141s L N m,inl:=inlT,live:=lives,liveX:=livesX,L:=L,dp:=none,prom:=promT,heal:=healT,ren:=renT}
theorem f141.b_eq (L N m:Nat) (κ:AV->Option R) (a:Tree) (c:Int):
  evBody (E141 L N m) (evCallI (E141 L N m) 0 1000) 1000 141 Tryz.f141 [(.tv (.st 1) a),(.tv i64 c)] [] [] (finC (.one .bool) κ)
  =f141.b L N (f141 L N m) (f90_3 L N m) (f129_3 L N m) (f175_1 L N m) (fun a0=>κ (.tv .bool a0)) a c:=by kernel_rfl
theorem f90_3.b_eq (L N m:Nat) (κ:AV->Option R) (a:LT) (c:Int):
  evBody (E141 L N m) (evCallI (E141 L N m) 0 1000) 1000 90 Tryz.f90 [(.tv (.sl (.st 1)) a),(.fn 175 [(.imp i64 c 0)])] [] [] (finC (.one .bool) κ)
  =f90_3.b L N (f141 L N m) (f90_3 L N m) (f129_3 L N m) (f175_1 L N m) (fun a0=>κ (.tv .bool a0)) a c:=by kernel_rfl
noncomputable def f129_3.c0:Code:=loopAt 0 (codeOf Tryz.f129)
def f129_3.X0_e0 (κ:KX R):=κ (.exit 0) f129_3.T0_e0 f129_3.H0_e0
def f129_3.X0_r (κ:KX R):=fun a=>κ .ret (f129_3.T0_r a) (f129_3.H0_r a)
def f129_3.R0 (rec:KT R):=fun a b c d=>rec (f129_3.T0 a b c d) (f129_3.H0 a b c d)
theorem f129_3.s0_eq (L N m:Nat) (κ:KX R) (rec:KT R) (a:LT) (b c d:Int):
  evRd (E141 L N m) (evCallI (E141 L N m) 0 1000) 1000 129 19 0 f129_3.c0 κ rec (f129_3.T0 a b c d) (f129_3.H0 a b c d)
  =f129_3.s0 L N (f141 L N m) (f90_3 L N m) (f129_3 L N m) (f175_1 L N m) (f129_3.X0_e0 κ) (f129_3.X0_r κ) (f129_3.R0 rec) a b c d:=by kernel_rfl
theorem f129_3.l0_eq (L N m:Nat) (κ:KX R):∀(n:Nat) (a:LT) (b c d:Int),
  evLp (E141 L N m) (evCallI (E141 L N m) 0 1000) 1000 129 19 0 f129_3.c0 κ n (f129_3.T0 a b c d) (f129_3.H0 a b c d)
  =f129_3.l0 L N (f141 L N m) (f90_3 L N m) (f129_3 L N m) (f175_1 L N m) (f129_3.X0_e0 κ) (f129_3.X0_r κ) n a b c d:=by
 intro n
 induction n with
 |zero=>intros;rfl
 |succ n ih=>
  intro a b c d
  rw [evLp_succ,f129_3.s0_eq]
  delta f129_3.R0
  simp only [ih]
  rfl
theorem f129_3.p0_e0_eq (L N m:Nat) (κ:AV->Option R):
  (contAt (E141 L N m) (evCallI (E141 L N m) 0 1000) 1000 129 19 0 (codeOf Tryz.f129) (finK (E141 L N m) 1000 Tryz.f129 (finC (.one i64) κ))) (.exit 0) f129_3.T0_e0 f129_3.H0_e0
  =f129_3.p0_e0 L N (f141 L N m) (f90_3 L N m) (f129_3 L N m) (f175_1 L N m) (fun a0=>κ (.tv i64 a0)):=by kernel_rfl
theorem f129_3.p0_r_eq (L N m:Nat) (κ:AV->Option R) (a:Int):
  (contAt (E141 L N m) (evCallI (E141 L N m) 0 1000) 1000 129 19 0 (codeOf Tryz.f129) (finK (E141 L N m) 1000 Tryz.f129 (finC (.one i64) κ))) .ret (f129_3.T0_r a) (f129_3.H0_r a)
  =f129_3.p0_r L N (f141 L N m) (f90_3 L N m) (f129_3 L N m) (f175_1 L N m) (fun a0=>κ (.tv i64 a0)) a:=by kernel_rfl
theorem f129_3.b_eq (L N m:Nat) (κ:AV->Option R) (a:LT) (c:Int):
  evBody (E141 L N m) (evCallI (E141 L N m) 0 1000) 1000 129 Tryz.f129 [(.tv (.sl (.st 1)) a),(.fn 175 [(.imp i64 c 0)])] [] [] (finC (.one i64) κ)
  =f129_3.b L N (f141 L N m) (f90_3 L N m) (f129_3 L N m) (f175_1 L N m) (fun a0=>κ (.tv i64 a0)) a c:=by
 refine Eq.trans (b:=f129_3.b' L N (f141 L N m) (f90_3 L N m) (f129_3 L N m) (f175_1 L N m) (fun a0=>κ (.tv i64 a0)) (fun d e f g=>evLp (E141 L N m) (evCallI (E141 L N m) 0 1000) 1000 129 19 0 f129_3.c0 (contAt (E141 L N m) (evCallI (E141 L N m) 0 1000) 1000 129 19 0 (codeOf Tryz.f129) (finK (E141 L N m) 1000 Tryz.f129 (finC (.one i64) κ))) L (f129_3.T0 d e f g) (f129_3.H0 d e f g)) a c) (by kernel_rfl) ?_
 unfold f129_3.b
 simp only [f129_3.l0_eq]
 delta f129_3.X0_e0 f129_3.X0_r
 simp only [f129_3.p0_e0_eq,f129_3.p0_r_eq]
theorem f175_1.b_eq (L N m:Nat) (κ:AV->Option R) (a:Tree) (c:Int):
  evBody (E141 L N m) (evCallI (E141 L N m) 0 1000) 1000 175 Tryz.f175 [(.tv (.st 1) a),(.imp i64 c 0)] [] [] (finC (.one .bool) κ)
  =f175_1.b L N (f141 L N m) (f90_3 L N m) (f129_3 L N m) (f175_1 L N m) (fun a0=>κ (.tv .bool a0)) a c:=by kernel_rfl
theorem f141.ok (L N m:Nat) (hΦ:TellsOk Tryz.prog (Φ141s L N m)):EntOk Tryz.prog 141 (f141.ent L N (m+1)):=entRo_ok (E:=(E141 L N m)) (dep:=1000) (f:=Tryz.f141) (sound_of hΦ) okP (callI_sound (sound_of hΦ) okP 0 1000) rfl rfl fun d _ hy=>(f141.b_eq L N m (unR (.one .bool)) d.1 d.2.1).trans (Eq.trans (b:=f141.b L N (f141 L N m) (f90_3 L N m) (f129_3 L N m) (f175_1 L N m) some d.1 d.2.1) (by kernel_rfl) hy)
theorem f90_3.ok (L N m:Nat) (hΦ:TellsOk Tryz.prog (Φ141s L N m)):EntOkO Tryz.prog 90 (f90_3.ent L N (m+1)):=entRf_ok (E:=(E141 L N m)) (dep:=1000) (f:=Tryz.f90) (sound_of hΦ) okP (callI_sound (sound_of hΦ) okP 0 1000) rfl rfl fun d _ hy=>(f90_3.b_eq L N m (unR (.one .bool)) d.1 d.2.1.1).trans (Eq.trans (b:=f90_3.b L N (f141 L N m) (f90_3 L N m) (f129_3 L N m) (f175_1 L N m) some d.1 d.2.1.1) (by kernel_rfl) hy)
theorem f129_3.ok (L N m:Nat) (hΦ:TellsOk Tryz.prog (Φ141s L N m)):EntOkO Tryz.prog 129 (f129_3.ent L N (m+1)):=entRf_ok (E:=(E141 L N m)) (dep:=1000) (f:=Tryz.f129) (sound_of hΦ) okP (callI_sound (sound_of hΦ) okP 0 1000) rfl rfl fun d _ hy=>(f129_3.b_eq L N m (unR (.one i64)) d.1 d.2.1.1).trans (Eq.trans (b:=f129_3.b L N (f141 L N m) (f90_3 L N m) (f129_3 L N m) (f175_1 L N m) some d.1 d.2.1.1) (by kernel_rfl) hy)
theorem f175_1.ok (L N m:Nat) (hΦ:TellsOk Tryz.prog (Φ141s L N m)):EntOkO Tryz.prog 175 (f175_1.ent L N (m+1)):=entRf_ok (E:=(E141 L N m)) (dep:=1000) (f:=Tryz.f175) (sound_of hΦ) okP (callI_sound (sound_of hΦ) okP 0 1000) rfl rfl fun d _ hy=>(f175_1.b_eq L N m (unR (.one .bool)) d.1 d.2.1).trans (Eq.trans (b:=f175_1.b L N (f141 L N m) (f90_3 L N m) (f129_3 L N m) (f175_1 L N m) some d.1 d.2.1) (by kernel_rfl) hy)
theorem Φ141s_ok (L N:Nat):∀m,TellsOk Tryz.prog (Φ141s L N m):=by
 intro m
 induction m with
 |zero=>exact (addO_ok (addO_ok (addO_ok (addT_ok (Φ50_ok L N) (entRo_no fun _=>rfl)) (entRf_no fun _=>rfl)) (entRf_no fun _=>rfl)) (entRf_no fun _=>rfl))
 |succ m ih=>exact (addO_ok (addO_ok (addO_ok (addT_ok (Φ50_ok L N) (f141.ok L N m ih)) (f90_3.ok L N m ih)) (f129_3.ok L N m ih)) (f175_1.ok L N m ih))
def Φ141 (L N:Nat):Tells:=(addO (addO (addO (addT (Φ50 L N) 141 (f141.ent L N N)) 90 (f90_3.ent L N N)) 129 (f129_3.ent L N N)) 175 (f175_1.ent L N N))
theorem Φ141_ok (L N:Nat):TellsOk Tryz.prog (Φ141 L N):=Φ141s_ok L N N
def f103.b' (L N:Nat) (k:Bool->Option R) (a:Tree) (b:Int):Option R:=
 bif (decide (b≥(0:Int))) then
  bif (decide (b≤(3:Int))) then
   (f50 L N (Tree.mk a.op a.n a.parts)).bind fun c=>
   bif c then
    (f141 L N N (Tree.mk a.op a.n a.parts) b).bind fun d=>
    k d
   else k false
  else k false
 else k false
def f103.b (L N:Nat) (k:Bool->Option R) (a:Tree) (c:Int):Option R:=
 f103.b' L N k a c
def f103 (L N:Nat) (a:Tree) (c:Int):Option (Bool):=f103.b L N some a c
def f103.ent (L N:Nat):=entRo [(.st 1),i64] (.one .bool) fun d=>f103 L N d.1 d.2.1
noncomputable def E103 (L N:Nat):Env:={P:=Tryz.prog,ty:=tyOf,Φ:=(Φ141 L N),inl:=inlT,live:=lives,liveX:=livesX,L:=L,dp:=none,prom:=promT,heal:=healT,ren:=renT}
theorem f103.b_eq (L N:Nat) (κ:AV->Option R) (a:Tree) (c:Int):
  evBody (E103 L N) (evCallI (E103 L N) 0 1000) 1000 103 Tryz.f103 [(.tv (.st 1) a),(.tv i64 c)] [] [] (finC (.one .bool) κ)
  =f103.b L N (fun a0=>κ (.tv .bool a0)) a c:=by kernel_rfl
theorem f103.ok (L N:Nat) (hΦ:TellsOk Tryz.prog ((Φ141 L N))):EntOk Tryz.prog 103 (f103.ent L N):=entRo_ok (E:=(E103 L N)) (dep:=1000) (f:=Tryz.f103) (sound_of hΦ) okP (callI_sound (sound_of hΦ) okP 0 1000) rfl rfl fun d _ hy=>(f103.b_eq L N (unR (.one .bool)) d.1 d.2.1).trans (Eq.trans (b:=f103.b L N some d.1 d.2.1) (by kernel_rfl) hy)
def Φ103 (L N:Nat):Tells:=(addT (Φ141 L N) 103 (f103.ent L N))
theorem Φ103_ok (L N:Nat):TellsOk Tryz.prog (Φ103 L N):=addT_ok (Φ141_ok L N) (f103.ok L N (Φ141_ok L N))
def f140.b' (L N:Nat) (self140:Tree->Option (Bool)) (self90_4:LT->Option (Bool)) (self129_4:LT->Option (Int)) (k:Bool->Option R) (a:Tree):Option R:=
 bif (a.op==(5:Int)) then
  k true
 else bif (a.op !=(1:Int)) then
  (self90_4 a.parts).bind fun b=>
  k b
 else k false
def f140.b (L N:Nat) (self140:Tree->Option (Bool)) (self90_4:LT->Option (Bool)) (self129_4:LT->Option (Int)) (k:Bool->Option R) (a:Tree):Option R:=
 f140.b' L N self140 self90_4 self129_4 k a
def f90_4.b' (L N:Nat) (self140:Tree->Option (Bool)) (self90_4:LT->Option (Bool)) (self129_4:LT->Option (Int)) (k:Bool->Option R) (a:LT):Option R:=
 (self129_4 a).bind fun b=>
 k (decide (b≥(0:Int)))
def f90_4.b (L N:Nat) (self140:Tree->Option (Bool)) (self90_4:LT->Option (Bool)) (self129_4:LT->Option (Int)) (k:Bool->Option R) (a:LT):Option R:=
 f90_4.b' L N self140 self90_4 self129_4 k a
def f129_4.s0' (L N:Nat) (self140:Tree->Option (Bool)) (self90_4:LT->Option (Bool)) (self129_4:LT->Option (Int)) (k0_e0:Option R) (k0_r:Int->Option R) (rec0:LT->Int->Int->Option R) (b:LT) (c a:Int):Option R:=
 bif (decide (a<c)) then
  bif (decide (0≤a)&&decide (a<(b.length:Int))) then
   (self140 (listAt b (Ty.dflt (.st 1)) a.toNat)).bind fun d=>
   bif d then
    k0_r a
   else rec0 b c (wi (a+(1:Int)))
  else none
 else k0_e0
def f129_4.s0 (L N:Nat) (self140:Tree->Option (Bool)) (self90_4:LT->Option (Bool)) (self129_4:LT->Option (Int)) (k0_e0:Option R) (k0_r:Int->Option R) (rec0:LT->Int->Int->Option R) (a:LT) (b c:Int):Option R:=
 f129_4.s0' L N self140 self90_4 self129_4 k0_e0 k0_r rec0 a b c
def f129_4.l0 (L N:Nat) (self140:Tree->Option (Bool)) (self90_4:LT->Option (Bool)) (self129_4:LT->Option (Int)) (k0_e0:Option R) (k0_r:Int->Option R):Nat->LT->Int->Int->Option R
 |0,_,_,_=>none
 |n+1,a,b,c=>f129_4.s0 L N self140 self90_4 self129_4 k0_e0 k0_r (f129_4.l0 L N self140 self90_4 self129_4 k0_e0 k0_r n) a b c
def f129_4.T0 (a:LT) (b c:Int):T:=mkT 19 [(0,(.tv (.sl (.st 1)) a)),(1,(.fn 140 [])),(7,(.tv i64 b)),(8,(.tv i64 c))]
def f129_4.H0 (a:LT) (b c:Int):H:=[]
def f129_4.T0_e0:T:=mkT 19 []
def f129_4.H0_e0:H:=[]
def f129_4.T0_r (a:Int):T:=mkT 19 [(4,(.tv i64 a))]
def f129_4.H0_r (a:Int):H:=[]
def f129_4.p0_e0' (L N:Nat) (self140:Tree->Option (Bool)) (self90_4:LT->Option (Bool)) (self129_4:LT->Option (Int)) (k:Int->Option R):Option R:=
 k (-1:Int)
def f129_4.p0_e0 (L N:Nat) (self140:Tree->Option (Bool)) (self90_4:LT->Option (Bool)) (self129_4:LT->Option (Int)) (k:Int->Option R):Option R:=
 f129_4.p0_e0' L N self140 self90_4 self129_4 k
def f129_4.p0_r' (L N:Nat) (self140:Tree->Option (Bool)) (self90_4:LT->Option (Bool)) (self129_4:LT->Option (Int)) (k:Int->Option R) (a:Int):Option R:=
 k a
def f129_4.p0_r (L N:Nat) (self140:Tree->Option (Bool)) (self90_4:LT->Option (Bool)) (self129_4:LT->Option (Int)) (k:Int->Option R) (a:Int):Option R:=
 f129_4.p0_r' L N self140 self90_4 self129_4 k a
def f129_4.b' (L N:Nat) (self140:Tree->Option (Bool)) (self90_4:LT->Option (Bool)) (self129_4:LT->Option (Int)) (k:Int->Option R) (b:LT->Int->Int->Option R) (a:LT):Option R:=
 b a (a.length:Int) (0:Int)
def f129_4.b (L N:Nat) (self140:Tree->Option (Bool)) (self90_4:LT->Option (Bool)) (self129_4:LT->Option (Int)) (k:Int->Option R) (a:LT):Option R:=
 f129_4.b' L N self140 self90_4 self129_4 k (fun c d e=>f129_4.l0 L N self140 self90_4 self129_4 (f129_4.p0_e0 L N self140 self90_4 self129_4 k) (fun f=>f129_4.p0_r L N self140 self90_4 self129_4 k f) L c d e) a
mutual
def f140 (L N:Nat):Nat->Tree->Option (Bool)
 |0,_=>none
 |n+1,a=>f140.b L N (f140 L N n) (f90_4 L N n) (f129_4 L N n) some a
def f90_4 (L N:Nat):Nat->LT->Option (Bool)
 |0,_=>none
 |n+1,a=>f90_4.b L N (f140 L N n) (f90_4 L N n) (f129_4 L N n) some a
def f129_4 (L N:Nat):Nat->LT->Option (Int)
 |0,_=>none
 |n+1,a=>f129_4.b L N (f140 L N n) (f90_4 L N n) (f129_4 L N n) some a
end
def f140.ent (L N m:Nat):=entRo [(.st 1)] (.one .bool) fun d=>f140 L N m d.1
def f90_4.ent (L N m:Nat):=entRf [(.dat (.sl (.st 1))),(.fn 140 [])] (.one .bool) fun d=>f90_4 L N m d.1
def f129_4.ent (L N m:Nat):=entRf [(.dat (.sl (.st 1))),(.fn 140 [])] (.one i64) fun d=>f129_4 L N m d.1
def Φ140s (L N m:Nat):Tells:=(addO (addO (addT (Φ103 L N) 140 (f140.ent L N m)) 90 (f90_4.ent L N m)) 129 (f129_4.ent L N m))
noncomputable def E140 (L N m:Nat):Env:={P:=Tryz.prog,ty:=tyOf,Φ:=Φ140s L N m,inl:=inlT,live:=lives,liveX:=livesX,L:=L,dp:=none,prom:=promT,heal:=healT,ren:=renT}
theorem f140.b_eq (L N m:Nat) (κ:AV->Option R) (a:Tree):
  evBody (E140 L N m) (evCallI (E140 L N m) 0 1000) 1000 140 Tryz.f140 [(.tv (.st 1) a)] [] [] (finC (.one .bool) κ)
  =f140.b L N (f140 L N m) (f90_4 L N m) (f129_4 L N m) (fun a0=>κ (.tv .bool a0)) a:=by kernel_rfl
theorem f90_4.b_eq (L N m:Nat) (κ:AV->Option R) (a:LT):
  evBody (E140 L N m) (evCallI (E140 L N m) 0 1000) 1000 90 Tryz.f90 [(.tv (.sl (.st 1)) a),(.fn 140 [])] [] [] (finC (.one .bool) κ)
  =f90_4.b L N (f140 L N m) (f90_4 L N m) (f129_4 L N m) (fun a0=>κ (.tv .bool a0)) a:=by kernel_rfl
noncomputable def f129_4.c0:Code:=loopAt 0 (codeOf Tryz.f129)
def f129_4.X0_e0 (κ:KX R):=κ (.exit 0) f129_4.T0_e0 f129_4.H0_e0
def f129_4.X0_r (κ:KX R):=fun a=>κ .ret (f129_4.T0_r a) (f129_4.H0_r a)
def f129_4.R0 (rec:KT R):=fun a b c=>rec (f129_4.T0 a b c) (f129_4.H0 a b c)
theorem f129_4.s0_eq (L N m:Nat) (κ:KX R) (rec:KT R) (a:LT) (b c:Int):
  evRd (E140 L N m) (evCallI (E140 L N m) 0 1000) 1000 129 19 0 f129_4.c0 κ rec (f129_4.T0 a b c) (f129_4.H0 a b c)
  =f129_4.s0 L N (f140 L N m) (f90_4 L N m) (f129_4 L N m) (f129_4.X0_e0 κ) (f129_4.X0_r κ) (f129_4.R0 rec) a b c:=by kernel_rfl
theorem f129_4.l0_eq (L N m:Nat) (κ:KX R):∀(n:Nat) (a:LT) (b c:Int),
  evLp (E140 L N m) (evCallI (E140 L N m) 0 1000) 1000 129 19 0 f129_4.c0 κ n (f129_4.T0 a b c) (f129_4.H0 a b c)
  =f129_4.l0 L N (f140 L N m) (f90_4 L N m) (f129_4 L N m) (f129_4.X0_e0 κ) (f129_4.X0_r κ) n a b c:=by
 intro n
 induction n with
 |zero=>intros;rfl
 |succ n ih=>
  intro a b c
  rw [evLp_succ,f129_4.s0_eq]
  delta f129_4.R0
  simp only [ih]
  rfl
theorem f129_4.p0_e0_eq (L N m:Nat) (κ:AV->Option R):
  (contAt (E140 L N m) (evCallI (E140 L N m) 0 1000) 1000 129 19 0 (codeOf Tryz.f129) (finK (E140 L N m) 1000 Tryz.f129 (finC (.one i64) κ))) (.exit 0) f129_4.T0_e0 f129_4.H0_e0
  =f129_4.p0_e0 L N (f140 L N m) (f90_4 L N m) (f129_4 L N m) (fun a0=>κ (.tv i64 a0)):=by kernel_rfl
theorem f129_4.p0_r_eq (L N m:Nat) (κ:AV->Option R) (a:Int):
  (contAt (E140 L N m) (evCallI (E140 L N m) 0 1000) 1000 129 19 0 (codeOf Tryz.f129) (finK (E140 L N m) 1000 Tryz.f129 (finC (.one i64) κ))) .ret (f129_4.T0_r a) (f129_4.H0_r a)
  =f129_4.p0_r L N (f140 L N m) (f90_4 L N m) (f129_4 L N m) (fun a0=>κ (.tv i64 a0)) a:=by kernel_rfl
theorem f129_4.b_eq (L N m:Nat) (κ:AV->Option R) (a:LT):
  evBody (E140 L N m) (evCallI (E140 L N m) 0 1000) 1000 129 Tryz.f129 [(.tv (.sl (.st 1)) a),(.fn 140 [])] [] [] (finC (.one i64) κ)
  =f129_4.b L N (f140 L N m) (f90_4 L N m) (f129_4 L N m) (fun a0=>κ (.tv i64 a0)) a:=by
 refine Eq.trans (b:=f129_4.b' L N (f140 L N m) (f90_4 L N m) (f129_4 L N m) (fun a0=>κ (.tv i64 a0)) (fun c d e=>evLp (E140 L N m) (evCallI (E140 L N m) 0 1000) 1000 129 19 0 f129_4.c0 (contAt (E140 L N m) (evCallI (E140 L N m) 0 1000) 1000 129 19 0 (codeOf Tryz.f129) (finK (E140 L N m) 1000 Tryz.f129 (finC (.one i64) κ))) L (f129_4.T0 c d e) (f129_4.H0 c d e)) a) (by kernel_rfl) ?_
 unfold f129_4.b
 simp only [f129_4.l0_eq]
 delta f129_4.X0_e0 f129_4.X0_r
 simp only [f129_4.p0_e0_eq,f129_4.p0_r_eq]
theorem f140.ok (L N m:Nat) (hΦ:TellsOk Tryz.prog (Φ140s L N m)):EntOk Tryz.prog 140 (f140.ent L N (m+1)):=entRo_ok (E:=(E140 L N m)) (dep:=1000) (f:=Tryz.f140) (sound_of hΦ) okP (callI_sound (sound_of hΦ) okP 0 1000) rfl rfl fun d _ hy=>(f140.b_eq L N m (unR (.one .bool)) d.1).trans (Eq.trans (b:=f140.b L N (f140 L N m) (f90_4 L N m) (f129_4 L N m) some d.1) (by kernel_rfl) hy)
theorem f90_4.ok (L N m:Nat) (hΦ:TellsOk Tryz.prog (Φ140s L N m)):EntOkO Tryz.prog 90 (f90_4.ent L N (m+1)):=entRf_ok (E:=(E140 L N m)) (dep:=1000) (f:=Tryz.f90) (sound_of hΦ) okP (callI_sound (sound_of hΦ) okP 0 1000) rfl rfl fun d _ hy=>(f90_4.b_eq L N m (unR (.one .bool)) d.1).trans (Eq.trans (b:=f90_4.b L N (f140 L N m) (f90_4 L N m) (f129_4 L N m) some d.1) (by kernel_rfl) hy)
theorem f129_4.ok (L N m:Nat) (hΦ:TellsOk Tryz.prog (Φ140s L N m)):EntOkO Tryz.prog 129 (f129_4.ent L N (m+1)):=entRf_ok (E:=(E140 L N m)) (dep:=1000) (f:=Tryz.f129) (sound_of hΦ) okP (callI_sound (sound_of hΦ) okP 0 1000) rfl rfl fun d _ hy=>(f129_4.b_eq L N m (unR (.one i64)) d.1).trans (Eq.trans (b:=f129_4.b L N (f140 L N m) (f90_4 L N m) (f129_4 L N m) some d.1) (by kernel_rfl) hy)
theorem Φ140s_ok (L N:Nat):∀m,TellsOk Tryz.prog (Φ140s L N m):=by
 intro m
 induction m with
 |zero=>exact (addO_ok (addO_ok (addT_ok (Φ103_ok L N) (entRo_no fun _=>rfl)) (entRf_no fun _=>rfl)) (entRf_no fun _=>rfl))
 |succ m ih=>exact (addO_ok (addO_ok (addT_ok (Φ103_ok L N) (f140.ok L N m ih)) (f90_4.ok L N m ih)) (f129_4.ok L N m ih))
def Φ140 (L N:Nat):Tells:=(addO (addO (addT (Φ103 L N) 140 (f140.ent L N N)) 90 (f90_4.ent L N N)) 129 (f129_4.ent L N N))
theorem Φ140_ok (L N:Nat):TellsOk Tryz.prog (Φ140 L N):=Φ140s_ok L N N
def f139_1.b' (L N:Nat) (k:Bool->Option R) (a:Tree) (b:LT):Option R:=
 (f103 L N (Tree.mk a.op a.n a.parts) (b.length:Int)).bind fun c=>
 bif (!c) then
  k true
 else (f140 L N N (Tree.mk a.op a.n a.parts)).bind fun d=>
 k d
def f139_1.b (L N:Nat) (k:Bool->Option R) (a:Tree) (c:LT):Option R:=
 f139_1.b' L N k a c
def f139_1 (L N:Nat) (a:Tree) (c:LT):Option (Bool):=f139_1.b L N some a c
def f139_1.ent (L N:Nat):=entRf [(.dat (.st 1)),(.imp (.sl (.st 1)) 0)] (.one .bool) fun d=>f139_1 L N d.1 d.2.1
noncomputable def E139_1 (L N:Nat):Env:={P:=Tryz.prog,ty:=tyOf,Φ:=(Φ140 L N),inl:=inlT,live:=lives,liveX:=livesX,L:=L,dp:=none,prom:=promT,heal:=healT,ren:=renT}
theorem f139_1.b_eq (L N:Nat) (κ:AV->Option R) (a:Tree) (c:LT):
  evBody (E139_1 L N) (evCallI (E139_1 L N) 0 1000) 1000 139 Tryz.f139 [(.tv (.st 1) a),(.imp (.sl (.st 1)) c 0)] [] [] (finC (.one .bool) κ)
  =f139_1.b L N (fun a0=>κ (.tv .bool a0)) a c:=by kernel_rfl
theorem f139_1.ok (L N:Nat) (hΦ:TellsOk Tryz.prog ((Φ140 L N))):EntOkO Tryz.prog 139 (f139_1.ent L N):=entRf_ok (E:=(E139_1 L N)) (dep:=1000) (f:=Tryz.f139) (sound_of hΦ) okP (callI_sound (sound_of hΦ) okP 0 1000) rfl rfl fun d _ hy=>(f139_1.b_eq L N (unR (.one .bool)) d.1 d.2.1).trans (Eq.trans (b:=f139_1.b L N some d.1 d.2.1) (by kernel_rfl) hy)
def Φ139_1 (L N:Nat):Tells:=(addO (Φ140 L N) 139 (f139_1.ent L N))
theorem Φ139_1_ok (L N:Nat):TellsOk Tryz.prog (Φ139_1 L N):=addO_ok (Φ140_ok L N) (f139_1.ok L N (Φ140_ok L N))
def f129_1.s0' (L N:Nat) (k0_e0:Option R) (k0_r:Int->Option R) (rec0:LT->LT->Int->Int->Option R) (b c:LT) (d a:Int):Option R:=
 bif (decide (a<d)) then
  bif (decide (0≤a)&&decide (a<(b.length:Int))) then
   (f139_1 L N (listAt b (Ty.dflt (.st 1)) a.toNat) c).bind fun e=>
   bif e then
    k0_r a
   else rec0 b c d (wi (a+(1:Int)))
  else none
 else k0_e0
def f129_1.s0 (L N:Nat) (k0_e0:Option R) (k0_r:Int->Option R) (rec0:LT->LT->Int->Int->Option R) (a b:LT) (c d:Int):Option R:=
 f129_1.s0' L N k0_e0 k0_r rec0 a b c d
def f129_1.l0 (L N:Nat) (k0_e0:Option R) (k0_r:Int->Option R):Nat->LT->LT->Int->Int->Option R
 |0,_,_,_,_=>none
 |n+1,a,b,c,d=>f129_1.s0 L N k0_e0 k0_r (f129_1.l0 L N k0_e0 k0_r n) a b c d
def f129_1.T0 (a b:LT) (c d:Int):T:=mkT 19 [(0,(.tv (.sl (.st 1)) a)),(1,(.fn 139 [(.imp (.sl (.st 1)) b 0)])),(7,(.tv i64 c)),(8,(.tv i64 d))]
def f129_1.H0 (a b:LT) (c d:Int):H:=[]
def f129_1.T0_e0:T:=mkT 19 []
def f129_1.H0_e0:H:=[]
def f129_1.T0_r (a:Int):T:=mkT 19 [(4,(.tv i64 a))]
def f129_1.H0_r (a:Int):H:=[]
def f129_1.p0_e0' (L N:Nat) (k:Int->Option R):Option R:=
 k (-1:Int)
def f129_1.p0_e0 (L N:Nat) (k:Int->Option R):Option R:=
 f129_1.p0_e0' L N k
def f129_1.p0_r' (L N:Nat) (k:Int->Option R) (a:Int):Option R:=
 k a
def f129_1.p0_r (L N:Nat) (k:Int->Option R) (a:Int):Option R:=
 f129_1.p0_r' L N k a
def f129_1.b' (L N:Nat) (k:Int->Option R) (b:LT->LT->Int->Int->Option R) (a c:LT):Option R:=
 b a c (a.length:Int) (0:Int)
def f129_1.b (L N:Nat) (k:Int->Option R) (a c:LT):Option R:=
 f129_1.b' L N k (fun d e f g=>f129_1.l0 L N (f129_1.p0_e0 L N k) (fun h=>f129_1.p0_r L N k h) L d e f g) a c
def f129_1 (L N:Nat) (a c:LT):Option (Int):=f129_1.b L N some a c
def f129_1.ent (L N:Nat):=entRf [(.dat (.sl (.st 1))),(.fn 139 [(.imp (.sl (.st 1)) 0)])] (.one i64) fun d=>f129_1 L N d.1 d.2.1.1
noncomputable def E129_1 (L N:Nat):Env:={P:=Tryz.prog,ty:=tyOf,Φ:=(Φ139_1 L N),inl:=inlT,live:=lives,liveX:=livesX,L:=L,dp:=none,prom:=promT,heal:=healT,ren:=renT}
noncomputable def f129_1.c0:Code:=loopAt 0 (codeOf Tryz.f129)
def f129_1.X0_e0 (κ:KX R):=κ (.exit 0) f129_1.T0_e0 f129_1.H0_e0
def f129_1.X0_r (κ:KX R):=fun a=>κ .ret (f129_1.T0_r a) (f129_1.H0_r a)
def f129_1.R0 (rec:KT R):=fun a b c d=>rec (f129_1.T0 a b c d) (f129_1.H0 a b c d)
theorem f129_1.s0_eq (L N:Nat) (κ:KX R) (rec:KT R) (a b:LT) (c d:Int):
  evRd (E129_1 L N) (evCallI (E129_1 L N) 0 1000) 1000 129 19 0 f129_1.c0 κ rec (f129_1.T0 a b c d) (f129_1.H0 a b c d)
  =f129_1.s0 L N (f129_1.X0_e0 κ) (f129_1.X0_r κ) (f129_1.R0 rec) a b c d:=by kernel_rfl
theorem f129_1.l0_eq (L N:Nat) (κ:KX R):∀(n:Nat) (a b:LT) (c d:Int),
  evLp (E129_1 L N) (evCallI (E129_1 L N) 0 1000) 1000 129 19 0 f129_1.c0 κ n (f129_1.T0 a b c d) (f129_1.H0 a b c d)
  =f129_1.l0 L N (f129_1.X0_e0 κ) (f129_1.X0_r κ) n a b c d:=by
 intro n
 induction n with
 |zero=>intros;rfl
 |succ n ih=>
  intro a b c d
  rw [evLp_succ,f129_1.s0_eq]
  delta f129_1.R0
  simp only [ih]
  rfl
theorem f129_1.p0_e0_eq (L N:Nat) (κ:AV->Option R):
  (contAt (E129_1 L N) (evCallI (E129_1 L N) 0 1000) 1000 129 19 0 (codeOf Tryz.f129) (finK (E129_1 L N) 1000 Tryz.f129 (finC (.one i64) κ))) (.exit 0) f129_1.T0_e0 f129_1.H0_e0
  =f129_1.p0_e0 L N (fun a0=>κ (.tv i64 a0)):=by kernel_rfl
theorem f129_1.p0_r_eq (L N:Nat) (κ:AV->Option R) (a:Int):
  (contAt (E129_1 L N) (evCallI (E129_1 L N) 0 1000) 1000 129 19 0 (codeOf Tryz.f129) (finK (E129_1 L N) 1000 Tryz.f129 (finC (.one i64) κ))) .ret (f129_1.T0_r a) (f129_1.H0_r a)
  =f129_1.p0_r L N (fun a0=>κ (.tv i64 a0)) a:=by kernel_rfl
theorem f129_1.b_eq (L N:Nat) (κ:AV->Option R) (a c:LT):
  evBody (E129_1 L N) (evCallI (E129_1 L N) 0 1000) 1000 129 Tryz.f129 [(.tv (.sl (.st 1)) a),(.fn 139 [(.imp (.sl (.st 1)) c 0)])] [] [] (finC (.one i64) κ)
  =f129_1.b L N (fun a0=>κ (.tv i64 a0)) a c:=by
 refine Eq.trans (b:=f129_1.b' L N (fun a0=>κ (.tv i64 a0)) (fun d e f g=>evLp (E129_1 L N) (evCallI (E129_1 L N) 0 1000) 1000 129 19 0 f129_1.c0 (contAt (E129_1 L N) (evCallI (E129_1 L N) 0 1000) 1000 129 19 0 (codeOf Tryz.f129) (finK (E129_1 L N) 1000 Tryz.f129 (finC (.one i64) κ))) L (f129_1.T0 d e f g) (f129_1.H0 d e f g)) a c) (by kernel_rfl) ?_
 unfold f129_1.b
 simp only [f129_1.l0_eq]
 delta f129_1.X0_e0 f129_1.X0_r
 simp only [f129_1.p0_e0_eq,f129_1.p0_r_eq]
theorem f129_1.ok (L N:Nat) (hΦ:TellsOk Tryz.prog ((Φ139_1 L N))):EntOkO Tryz.prog 129 (f129_1.ent L N):=entRf_ok (E:=(E129_1 L N)) (dep:=1000) (f:=Tryz.f129) (sound_of hΦ) okP (callI_sound (sound_of hΦ) okP 0 1000) rfl rfl fun d _ hy=>(f129_1.b_eq L N (unR (.one i64)) d.1 d.2.1.1).trans (Eq.trans (b:=f129_1.b L N some d.1 d.2.1.1) (by kernel_rfl) hy)
def Φ129_1 (L N:Nat):Tells:=(addO (Φ139_1 L N) 129 (f129_1.ent L N))
theorem Φ129_1_ok (L N:Nat):TellsOk Tryz.prog (Φ129_1 L N):=addO_ok (Φ139_1_ok L N) (f129_1.ok L N (Φ139_1_ok L N))
def f90_1.b' (L N:Nat) (k:Bool->Option R) (a b:LT):Option R:=
 (f129_1 L N a b).bind fun c=>
 k (decide (c≥(0:Int)))
def f90_1.b (L N:Nat) (k:Bool->Option R) (a c:LT):Option R:=
 f90_1.b' L N k a c
def f90_1 (L N:Nat) (a c:LT):Option (Bool):=f90_1.b L N some a c
def f90_1.ent (L N:Nat):=entRf [(.dat (.sl (.st 1))),(.fn 139 [(.imp (.sl (.st 1)) 0)])] (.one .bool) fun d=>f90_1 L N d.1 d.2.1.1
noncomputable def E90_1 (L N:Nat):Env:={P:=Tryz.prog,ty:=tyOf,Φ:=(Φ129_1 L N),inl:=inlT,live:=lives,liveX:=livesX,L:=L,dp:=none,prom:=promT,heal:=healT,ren:=renT}
theorem f90_1.b_eq (L N:Nat) (κ:AV->Option R) (a c:LT):
  evBody (E90_1 L N) (evCallI (E90_1 L N) 0 1000) 1000 90 Tryz.f90 [(.tv (.sl (.st 1)) a),(.fn 139 [(.imp (.sl (.st 1)) c 0)])] [] [] (finC (.one .bool) κ)
  =f90_1.b L N (fun a0=>κ (.tv .bool a0)) a c:=by kernel_rfl
theorem f90_1.ok (L N:Nat) (hΦ:TellsOk Tryz.prog ((Φ129_1 L N))):EntOkO Tryz.prog 90 (f90_1.ent L N):=entRf_ok (E:=(E90_1 L N)) (dep:=1000) (f:=Tryz.f90) (sound_of hΦ) okP (callI_sound (sound_of hΦ) okP 0 1000) rfl rfl fun d _ hy=>(f90_1.b_eq L N (unR (.one .bool)) d.1 d.2.1.1).trans (Eq.trans (b:=f90_1.b L N some d.1 d.2.1.1) (by kernel_rfl) hy)
def Φ90_1 (L N:Nat):Tells:=(addO (Φ129_1 L N) 90 (f90_1.ent L N))
theorem Φ90_1_ok (L N:Nat):TellsOk Tryz.prog (Φ90_1 L N):=addO_ok (Φ129_1_ok L N) (f90_1.ok L N (Φ129_1_ok L N))
def f102.b' (L N:Nat) (k:Bool->Option R) (a:LT):Option R:=
 bif (decide ((a.length:Int)≤(3:Int))) then
  (f90_1 L N a a).bind fun b=>
  k (!b)
 else k false
def f102.b (L N:Nat) (k:Bool->Option R) (a:LT):Option R:=
 f102.b' L N k a
def f102 (L N:Nat) (a:LT):Option (Bool):=f102.b L N some a
def f102.ent (L N:Nat):=entRo [(.sl (.st 1))] (.one .bool) fun d=>f102 L N d.1
noncomputable def E102 (L N:Nat):Env:={P:=Tryz.prog,ty:=tyOf,Φ:=(Φ90_1 L N),inl:=inlT,live:=lives,liveX:=livesX,L:=L,dp:=none,prom:=promT,heal:=healT,ren:=renT}
theorem f102.b_eq (L N:Nat) (κ:AV->Option R) (a:LT):
  evBody (E102 L N) (evCallI (E102 L N) 0 1000) 1000 102 Tryz.f102 [(.tv (.sl (.st 1)) a)] [] [] (finC (.one .bool) κ)
  =f102.b L N (fun a0=>κ (.tv .bool a0)) a:=by kernel_rfl
theorem f102.ok (L N:Nat) (hΦ:TellsOk Tryz.prog ((Φ90_1 L N))):EntOk Tryz.prog 102 (f102.ent L N):=entRo_ok (E:=(E102 L N)) (dep:=1000) (f:=Tryz.f102) (sound_of hΦ) okP (callI_sound (sound_of hΦ) okP 0 1000) rfl rfl fun d _ hy=>(f102.b_eq L N (unR (.one .bool)) d.1).trans (Eq.trans (b:=f102.b L N some d.1) (by kernel_rfl) hy)
def Φ102 (L N:Nat):Tells:=(addT (Φ90_1 L N) 102 (f102.ent L N))
theorem Φ102_ok (L N:Nat):TellsOk Tryz.prog (Φ102 L N):=addT_ok (Φ90_1_ok L N) (f102.ok L N (Φ90_1_ok L N))
def f89.b' (L N:Nat) (k:Int->Option R) (a:Int):Option R:=
 k (wi ((bif decide ((wi (0-a))>a) then (wi (0-a)) else a)-(1:Int)))
def f89.b (L N:Nat) (k:Int->Option R) (a:Int):Option R:=
 f89.b' L N k a
def f89 (L N:Nat) (a:Int):Option (Int):=f89.b L N some a
def f89.ent (L N:Nat):=entRo [i64] (.one i64) fun d=>f89 L N d.1
noncomputable def E89 (L N:Nat):Env:={P:=Tryz.prog,ty:=tyOf,Φ:=(Φ102 L N),inl:=inlT,live:=lives,liveX:=livesX,L:=L,dp:=none,prom:=promT,heal:=healT,ren:=renT}
theorem f89.b_eq (L N:Nat) (κ:AV->Option R) (a:Int):
  evBody (E89 L N) (evCallI (E89 L N) 0 1000) 1000 89 Tryz.f89 [(.tv i64 a)] [] [] (finC (.one i64) κ)
  =f89.b L N (fun a0=>κ (.tv i64 a0)) a:=by kernel_rfl
theorem f89.ok (L N:Nat) (hΦ:TellsOk Tryz.prog ((Φ102 L N))):EntOk Tryz.prog 89 (f89.ent L N):=entRo_ok (E:=(E89 L N)) (dep:=1000) (f:=Tryz.f89) (sound_of hΦ) okP (callI_sound (sound_of hΦ) okP 0 1000) rfl rfl fun d _ hy=>(f89.b_eq L N (unR (.one i64)) d.1).trans (Eq.trans (b:=f89.b L N some d.1) (by kernel_rfl) hy)
def Φ89 (L N:Nat):Tells:=(addT (Φ102 L N) 89 (f89.ent L N))
theorem Φ89_ok (L N:Nat):TellsOk Tryz.prog (Φ89 L N):=addT_ok (Φ102_ok L N) (f89.ok L N (Φ102_ok L N))
def f131.b' (L N:Nat) (k:ByteArray->Option R) (a:Int):Option R:=
 k (strOfNums ([(IntKind.wrap .u8 ((wi ((97:Int)+a))))]:LI))
def f131.b (L N:Nat) (k:ByteArray->Option R) (a:Int):Option R:=
 f131.b' L N k a
def f131 (L N:Nat) (a:Int):Option (ByteArray):=f131.b L N some a
def f131.ent (L N:Nat):=entRo [i64] (.one .str) fun d=>f131 L N d.1
noncomputable def E131 (L N:Nat):Env:={P:=Tryz.prog,ty:=tyOf,Φ:=(Φ89 L N),inl:=inlT,live:=lives,liveX:=livesX,L:=L,dp:=none,prom:=promT,heal:=healT,ren:=renT}
theorem f131.b_eq (L N:Nat) (κ:AV->Option R) (a:Int):
  evBody (E131 L N) (evCallI (E131 L N) 0 1000) 1000 131 Tryz.f131 [(.tv i64 a)] [] [] (finC (.one .str) κ)
  =f131.b L N (fun a0=>κ (.tv .str a0)) a:=by kernel_rfl
theorem f131.ok (L N:Nat) (hΦ:TellsOk Tryz.prog ((Φ89 L N))):EntOk Tryz.prog 131 (f131.ent L N):=entRo_ok (E:=(E131 L N)) (dep:=1000) (f:=Tryz.f131) (sound_of hΦ) okP (callI_sound (sound_of hΦ) okP 0 1000) rfl rfl fun d _ hy=>(f131.b_eq L N (unR (.one .str)) d.1).trans (Eq.trans (b:=f131.b L N some d.1) (by kernel_rfl) hy)
def Φ131 (L N:Nat):Tells:=(addT (Φ89 L N) 131 (f131.ent L N))
theorem Φ131_ok (L N:Nat):TellsOk Tryz.prog (Φ131 L N):=addT_ok (Φ89_ok L N) (f131.ok L N (Φ89_ok L N))
def f130.b' (L N:Nat) (k:ByteArray->Option R) (a:Int):Option R:=
 (f121 L N a).bind fun c=>
 bif (!c) then
  k (ByteArray.mk #[])
 else bif (a==(0:Int)) then
  k (ByteArray.mk #[116,97,117])
 else bif (decide (a>(0:Int))) then
  (f89 L N a).bind fun d=>
  (f131 L N d).bind fun e=>
  k e
 else (f89 L N a).bind fun f=>
 (f131 L N f).bind fun b=>
 bif (decide ((ByteArray.mk #[33]).size+b.size≤4611686018427387904)) then
  k ((ByteArray.mk #[33])++b)
 else none
def f130.b (L N:Nat) (k:ByteArray->Option R) (a:Int):Option R:=
 f130.b' L N k a
def f130 (L N:Nat) (a:Int):Option (ByteArray):=f130.b L N some a
def f130.ent (L N:Nat):=entRo [i64] (.one .str) fun d=>f130 L N d.1
noncomputable def E130 (L N:Nat):Env:={P:=Tryz.prog,ty:=tyOf,Φ:=(Φ131 L N),inl:=inlT,live:=lives,liveX:=livesX,L:=L,dp:=none,prom:=promT,heal:=healT,ren:=renT}
theorem f130.b_eq (L N:Nat) (κ:AV->Option R) (a:Int):
  evBody (E130 L N) (evCallI (E130 L N) 0 1000) 1000 130 Tryz.f130 [(.tv i64 a)] [] [] (finC (.one .str) κ)
  =f130.b L N (fun a0=>κ (.tv .str a0)) a:=by kernel_rfl
theorem f130.ok (L N:Nat) (hΦ:TellsOk Tryz.prog ((Φ131 L N))):EntOk Tryz.prog 130 (f130.ent L N):=entRo_ok (E:=(E130 L N)) (dep:=1000) (f:=Tryz.f130) (sound_of hΦ) okP (callI_sound (sound_of hΦ) okP 0 1000) rfl rfl fun d _ hy=>(f130.b_eq L N (unR (.one .str)) d.1).trans (Eq.trans (b:=f130.b L N some d.1) (by kernel_rfl) hy)
def Φ130 (L N:Nat):Tells:=(addT (Φ131 L N) 130 (f130.ent L N))
theorem Φ130_ok (L N:Nat):TellsOk Tryz.prog (Φ130 L N):=addT_ok (Φ131_ok L N) (f130.ok L N (Φ131_ok L N))
def f92.b' (L N:Nat) (self92:Tree->Option (ByteArray)) (k:ByteArray->Option R) (a:Tree):Option R:=
 bif (a.op==(1:Int)) then
  (f130 L N a.n).bind fun b=>
  bif (decide ((ByteArray.mk #[40,97,99,116,32]).size+b.size≤4611686018427387904)) then
   bif (decide (((ByteArray.mk #[40,97,99,116,32])++b).size+(ByteArray.mk #[32]).size≤4611686018427387904)) then
    bif (decide (0≤(0:Int))&&decide ((0:Int)<(a.parts.length:Int))) then
     (self92 (listAt a.parts (Ty.dflt (.st 1)) (0:Int).toNat)).bind fun f=>
     bif (decide ((((ByteArray.mk #[40,97,99,116,32])++b)++(ByteArray.mk #[32])).size+f.size≤4611686018427387904)) then
      bif (decide (((((ByteArray.mk #[40,97,99,116,32])++b)++(ByteArray.mk #[32]))++f).size+(ByteArray.mk #[41]).size≤4611686018427387904)) then
       k (((((ByteArray.mk #[40,97,99,116,32])++b)++(ByteArray.mk #[32]))++f)++(ByteArray.mk #[41]))
      else none
     else none
    else none
   else none
  else none
 else bif (a.op==(2:Int)) then
  bif (decide (0≤(0:Int))&&decide ((0:Int)<(a.parts.length:Int))) then
   (self92 (listAt a.parts (Ty.dflt (.st 1)) (0:Int).toNat)).bind fun c=>
   bif (decide ((ByteArray.mk #[40,115,117,109,32]).size+c.size≤4611686018427387904)) then
    bif (decide (((ByteArray.mk #[40,115,117,109,32])++c).size+(ByteArray.mk #[32]).size≤4611686018427387904)) then
     bif (decide (0≤(1:Int))&&decide ((1:Int)<(a.parts.length:Int))) then
      (self92 (listAt a.parts (Ty.dflt (.st 1)) (1:Int).toNat)).bind fun g=>
      bif (decide ((((ByteArray.mk #[40,115,117,109,32])++c)++(ByteArray.mk #[32])).size+g.size≤4611686018427387904)) then
       bif (decide (((((ByteArray.mk #[40,115,117,109,32])++c)++(ByteArray.mk #[32]))++g).size+(ByteArray.mk #[41]).size≤4611686018427387904)) then
        k (((((ByteArray.mk #[40,115,117,109,32])++c)++(ByteArray.mk #[32]))++g)++(ByteArray.mk #[41]))
       else none
      else none
     else none
    else none
   else none
  else none
 else bif (a.op==(3:Int)) then
  bif (decide (0≤(0:Int))&&decide ((0:Int)<(a.parts.length:Int))) then
   (self92 (listAt a.parts (Ty.dflt (.st 1)) (0:Int).toNat)).bind fun d=>
   bif (decide ((ByteArray.mk #[40,112,97,114,32]).size+d.size≤4611686018427387904)) then
    bif (decide (((ByteArray.mk #[40,112,97,114,32])++d).size+(ByteArray.mk #[32]).size≤4611686018427387904)) then
     bif (decide (0≤(1:Int))&&decide ((1:Int)<(a.parts.length:Int))) then
      (self92 (listAt a.parts (Ty.dflt (.st 1)) (1:Int).toNat)).bind fun h=>
      bif (decide ((((ByteArray.mk #[40,112,97,114,32])++d)++(ByteArray.mk #[32])).size+h.size≤4611686018427387904)) then
       bif (decide (((((ByteArray.mk #[40,112,97,114,32])++d)++(ByteArray.mk #[32]))++h).size+(ByteArray.mk #[41]).size≤4611686018427387904)) then
        k (((((ByteArray.mk #[40,112,97,114,32])++d)++(ByteArray.mk #[32]))++h)++(ByteArray.mk #[41]))
       else none
      else none
     else none
    else none
   else none
  else none
 else bif (a.op==(4:Int)) then
  (f131 L N a.n).bind fun e=>
  bif (decide ((ByteArray.mk #[40,104,105,100,101,32]).size+e.size≤4611686018427387904)) then
   bif (decide (((ByteArray.mk #[40,104,105,100,101,32])++e).size+(ByteArray.mk #[32]).size≤4611686018427387904)) then
    bif (decide (0≤(0:Int))&&decide ((0:Int)<(a.parts.length:Int))) then
     (self92 (listAt a.parts (Ty.dflt (.st 1)) (0:Int).toNat)).bind fun i=>
     bif (decide ((((ByteArray.mk #[40,104,105,100,101,32])++e)++(ByteArray.mk #[32])).size+i.size≤4611686018427387904)) then
      bif (decide (((((ByteArray.mk #[40,104,105,100,101,32])++e)++(ByteArray.mk #[32]))++i).size+(ByteArray.mk #[41]).size≤4611686018427387904)) then
       k (((((ByteArray.mk #[40,104,105,100,101,32])++e)++(ByteArray.mk #[32]))++i)++(ByteArray.mk #[41]))
      else none
     else none
    else none
   else none
  else none
 else bif (a.op==(5:Int)) then
  ((fitoa a.n)).bind fun j=>
  bif (decide ((ByteArray.mk #[88]).size+j.size≤4611686018427387904)) then
   k ((ByteArray.mk #[88])++j)
  else none
 else k (ByteArray.mk #[48])
def f92.b (L N:Nat) (self92:Tree->Option (ByteArray)) (k:ByteArray->Option R) (a:Tree):Option R:=
 f92.b' L N self92 k a
def f92 (L N:Nat):Nat->Tree->Option (ByteArray)
 |0,_=>none
 |n+1,a=>f92.b L N (f92 L N n) some a
def f92.ent (L N m:Nat):=entRo [(.st 1)] (.one .str) fun d=>f92 L N m d.1
def Φ92s (L N m:Nat):Tells:=(addT (Φ130 L N) 92 (f92.ent L N m))
noncomputable def E92 (L N m:Nat):Env:={P:=Tryz.prog,ty:=tyOf,Φ:=Φ92s L N m,inl:=inlT,live:=lives,liveX:=livesX,L:=L,dp:=none,prom:=promT,heal:=healT,ren:=renT}
theorem f92.b_eq (L N m:Nat) (κ:AV->Option R) (a:Tree):
  evBody (E92 L N m) (evCallI (E92 L N m) 0 1000) 1000 92 Tryz.f92 [(.tv (.st 1) a)] [] [] (finC (.one .str) κ)
  =f92.b L N (f92 L N m) (fun a0=>κ (.tv .str a0)) a:=by kernel_rfl
theorem f92.ok (L N m:Nat) (hΦ:TellsOk Tryz.prog (Φ92s L N m)):EntOk Tryz.prog 92 (f92.ent L N (m+1)):=entRo_ok (E:=(E92 L N m)) (dep:=1000) (f:=Tryz.f92) (sound_of hΦ) okP (callI_sound (sound_of hΦ) okP 0 1000) rfl rfl fun d _ hy=>(f92.b_eq L N m (unR (.one .str)) d.1).trans (Eq.trans (b:=f92.b L N (f92 L N m) some d.1) (by kernel_rfl) hy)
theorem Φ92s_ok (L N:Nat):∀m,TellsOk Tryz.prog (Φ92s L N m):=by
 intro m
 induction m with
 |zero=>exact (addT_ok (Φ130_ok L N) (entRo_no fun _=>rfl))
 |succ m ih=>exact (addT_ok (Φ130_ok L N) (f92.ok L N m ih))
def Φ92 (L N:Nat):Tells:=(addT (Φ130 L N) 92 (f92.ent L N N))
theorem Φ92_ok (L N:Nat):TellsOk Tryz.prog (Φ92 L N):=Φ92s_ok L N N
def f126.b' (L N:Nat) (k:Tree->Option R) (b:Int) (a:Tree):Option R:=
 k (Tree.mk (4:Int) b ([(Tree.mk a.op a.n a.parts)]:LT))
def f126.b (L N:Nat) (k:Tree->Option R) (a:Int) (c:Tree):Option R:=
 f126.b' L N k a c
def f126 (L N:Nat) (a:Int) (c:Tree):Option (Tree):=f126.b L N some a c
def f126.ent (L N:Nat):=entDa [i64,(.st 1)] (.one (.st 1)) fun d=>f126 L N d.1 d.2.1
noncomputable def E126 (L N:Nat):Env:={P:=Tryz.prog,ty:=tyOf,Φ:=(Φ92 L N),inl:=inlT,live:=lives,liveX:=livesX,L:=L,dp:=none,prom:=promT,heal:=healT,ren:=renT}
theorem f126.b_eq (L N:Nat) (κ:AV->Option R) (a:Int) (c:Tree):
  evBody (E126 L N) (evCallI (E126 L N) 0 1000) 1000 126 Tryz.f126 [(.tv i64 a),(.tv (.st 1) c)] [] [] (finC (.one (.st 1)) κ)
  =f126.b L N (fun a0=>κ (.tv (.st 1) a0)) a c:=by kernel_rfl
theorem f126.ok (L N:Nat) (hΦ:TellsOk Tryz.prog ((Φ92 L N))):EntOk Tryz.prog 126 (f126.ent L N):=entDa_ok (E:=(E126 L N)) (dep:=1000) (f:=Tryz.f126) (sound_of hΦ) okP (callI_sound (sound_of hΦ) okP 0 1000) rfl fun d _ hy=>(f126.b_eq L N (unR (.one (.st 1))) d.1 d.2.1).trans (Eq.trans (b:=f126.b L N some d.1 d.2.1) (by kernel_rfl) hy)
def Φ126 (L N:Nat):Tells:=(addT (Φ92 L N) 126 (f126.ent L N))
theorem Φ126_ok (L N:Nat):TellsOk Tryz.prog (Φ126 L N):=addT_ok (Φ92_ok L N) (f126.ok L N (Φ92_ok L N))
def f133.b' (L N:Nat) (k:Tree->Option R) (a b:Tree):Option R:=
 k (Tree.mk (3:Int) (0:Int) ([(Tree.mk a.op a.n a.parts),(Tree.mk b.op b.n b.parts)]:LT))
def f133.b (L N:Nat) (k:Tree->Option R) (a c:Tree):Option R:=
 f133.b' L N k a c
def f133 (L N:Nat) (a c:Tree):Option (Tree):=f133.b L N some a c
def f133.ent (L N:Nat):=entDa [(.st 1),(.st 1)] (.one (.st 1)) fun d=>f133 L N d.1 d.2.1
noncomputable def E133 (L N:Nat):Env:={P:=Tryz.prog,ty:=tyOf,Φ:=(Φ126 L N),inl:=inlT,live:=lives,liveX:=livesX,L:=L,dp:=none,prom:=promT,heal:=healT,ren:=renT}
theorem f133.b_eq (L N:Nat) (κ:AV->Option R) (a c:Tree):
  evBody (E133 L N) (evCallI (E133 L N) 0 1000) 1000 133 Tryz.f133 [(.tv (.st 1) a),(.tv (.st 1) c)] [] [] (finC (.one (.st 1)) κ)
  =f133.b L N (fun a0=>κ (.tv (.st 1) a0)) a c:=by kernel_rfl
theorem f133.ok (L N:Nat) (hΦ:TellsOk Tryz.prog ((Φ126 L N))):EntOk Tryz.prog 133 (f133.ent L N):=entDa_ok (E:=(E133 L N)) (dep:=1000) (f:=Tryz.f133) (sound_of hΦ) okP (callI_sound (sound_of hΦ) okP 0 1000) rfl fun d _ hy=>(f133.b_eq L N (unR (.one (.st 1))) d.1 d.2.1).trans (Eq.trans (b:=f133.b L N some d.1 d.2.1) (by kernel_rfl) hy)
def Φ133 (L N:Nat):Tells:=(addT (Φ126 L N) 133 (f133.ent L N))
theorem Φ133_ok (L N:Nat):TellsOk Tryz.prog (Φ133 L N):=addT_ok (Φ126_ok L N) (f133.ok L N (Φ126_ok L N))
def f93.s0' (L N:Nat) (self93:Tree->LT->Option (LS)) (k0_e1:Int->Int->LT->LS->LS->LS->Option R) (rec0:Int->Int->Int->Int->LT->LS->LS->LS->Option R) (f a:Int) (g h:Int) (d:LT) (b i e:LS):Option R:=
 bif (decide (a<f)) then
  bif (decide (0≤a)&&decide (a<(b.length:Int))) then
   bif (decide (0≤(1:Int))&&decide ((1:Int)<(d.length:Int))) then
    (f133 L N (Tree.mk ((listAt b (Ty.dflt (.st 3)) a.toNat).thn.op) ((listAt b (Ty.dflt (.st 3)) a.toNat).thn.n) ((listAt b (Ty.dflt (.st 3)) a.toNat).thn.parts)) (listAt d (Ty.dflt (.st 1)) (1:Int).toNat)).bind fun c=>
    bif (decide (e.length+([(Step.mk ((listAt b (Ty.dflt (.st 3)) a.toNat).act) (Tree.mk c.op c.n c.parts))]:LS).length≤lim)) then
     rec0 f (wi (a+(1:Int))) g h d b i (e++([(Step.mk ((listAt b (Ty.dflt (.st 3)) a.toNat).act) (Tree.mk c.op c.n c.parts))]:LS))
    else none
   else none
  else none
 else k0_e1 g h d b i e
def f93.s0 (L N:Nat) (self93:Tree->LT->Option (LS)) (k0_e1:Int->Int->LT->LS->LS->LS->Option R) (rec0:Int->Int->Int->Int->LT->LS->LS->LS->Option R) (a b:Int) (c d:Int) (e:LT) (f g h:LS):Option R:=
 f93.s0' L N self93 k0_e1 rec0 a b c d e f g h
def f93.l0 (L N:Nat) (self93:Tree->LT->Option (LS)) (k0_e1:Int->Int->LT->LS->LS->LS->Option R):Nat->Int->Int->Int->Int->LT->LS->LS->LS->Option R
 |0,_,_,_,_,_,_,_,_=>none
 |n+1,a,b,c,d,e,f,g,h=>f93.s0 L N self93 k0_e1 (f93.l0 L N self93 k0_e1 n) a b c d e f g h
def f93.T0 (a b:Int) (c d:Int) (e:LT) (f g h:LS):T:=mkT 183 [(2,(.ptr 1002 0)),(5,(.row 1053)),(6,(.row 1059)),(7,(.row 1060)),(61,(.row 1053)),(62,(.tv i64 a)),(63,(.tv i64 b))]
def f93.H0 (g h:Int) (a b:Int) (c:LT) (d e f:LS):H:=[(1002,(.box [(.tv i64 a),(.tv i64 b),(.tv (.sl (.st 1)) c)])),(1053,(.row 113 (.st 3) d)),(1059,(.row 113 (.st 3) e)),(1060,(.row 113 (.st 3) f))]
def f93.T0_e1 (a b:Int) (c:LT) (d e f:LS):T:=mkT 183 [(2,(.ptr 1002 0)),(5,(.row 1053)),(6,(.row 1059)),(7,(.row 1060))]
def f93.H0_e1 (a b:Int) (c:LT) (d e f:LS):H:=[(1002,(.box [(.tv i64 a),(.tv i64 b),(.tv (.sl (.st 1)) c)])),(1053,(.row 113 (.st 3) d)),(1059,(.row 113 (.st 3) e)),(1060,(.row 113 (.st 3) f))]
def f93.s1' (L N:Nat) (self93:Tree->LT->Option (LS)) (k1_e3:LS->LS->LS->Option R) (rec1:Int->Int->Int->Int->LT->LS->LS->LS->Option R) (f a:Int) (h i:Int) (d:LT) (g b e:LS):Option R:=
 bif (decide (a<f)) then
  bif (decide (0≤a)&&decide (a<(b.length:Int))) then
   bif (decide (0≤(0:Int))&&decide ((0:Int)<(d.length:Int))) then
    (f133 L N (listAt d (Ty.dflt (.st 1)) (0:Int).toNat) (Tree.mk ((listAt b (Ty.dflt (.st 3)) a.toNat).thn.op) ((listAt b (Ty.dflt (.st 3)) a.toNat).thn.n) ((listAt b (Ty.dflt (.st 3)) a.toNat).thn.parts))).bind fun c=>
    bif (decide (e.length+([(Step.mk ((listAt b (Ty.dflt (.st 3)) a.toNat).act) (Tree.mk c.op c.n c.parts))]:LS).length≤lim)) then
     rec1 f (wi (a+(1:Int))) h i d g b (e++([(Step.mk ((listAt b (Ty.dflt (.st 3)) a.toNat).act) (Tree.mk c.op c.n c.parts))]:LS))
    else none
   else none
  else none
 else k1_e3 g b e
def f93.s1 (L N:Nat) (self93:Tree->LT->Option (LS)) (k1_e3:LS->LS->LS->Option R) (rec1:Int->Int->Int->Int->LT->LS->LS->LS->Option R) (a b:Int) (c d:Int) (e:LT) (f g h:LS):Option R:=
 f93.s1' L N self93 k1_e3 rec1 a b c d e f g h
def f93.l1 (L N:Nat) (self93:Tree->LT->Option (LS)) (k1_e3:LS->LS->LS->Option R):Nat->Int->Int->Int->Int->LT->LS->LS->LS->Option R
 |0,_,_,_,_,_,_,_,_=>none
 |n+1,a,b,c,d,e,f,g,h=>f93.s1 L N self93 k1_e3 (f93.l1 L N self93 k1_e3 n) a b c d e f g h
def f93.T1 (a b:Int) (c d:Int) (e:LT) (f g h:LS):T:=mkT 183 [(2,(.ptr 1002 0)),(5,(.row 1053)),(6,(.row 1059)),(7,(.row 1060)),(81,(.row 1059)),(82,(.tv i64 a)),(83,(.tv i64 b))]
def f93.H1 (g h:Int) (a b:Int) (c:LT) (d e f:LS):H:=[(1002,(.box [(.tv i64 a),(.tv i64 b),(.tv (.sl (.st 1)) c)])),(1053,(.row 113 (.st 3) d)),(1059,(.row 113 (.st 3) e)),(1060,(.row 113 (.st 3) f))]
def f93.T1_e3 (a b c:LS):T:=mkT 183 [(5,(.row 1053)),(6,(.row 1059)),(7,(.row 1060))]
def f93.H1_e3 (a b c:LS):H:=[(1053,(.row 113 (.st 3) a)),(1059,(.row 113 (.st 3) b)),(1060,(.row 113 (.st 3) c))]
def f93.j0' (L N:Nat) (self93:Tree->LT->Option (LS)) (k3_e7:Int->Int->LS->LS->LS->Option R) (rec3:Int->Int->Int->Int->Int->Int->Int->LT->LS->LS->LS->Option R) (f g:Int) (h i:Int) (m:Bool) (j b c:Int) (d:LT) (r o p:Int) (q:LT) (k l e:LS):Option R:=
 bif m then
  (f133 L N (Tree.mk b c d) (Tree.mk o p q)).bind fun a=>
  bif (decide (e.length+([(Step.mk (0:Int) (Tree.mk a.op a.n a.parts))]:LS).length≤lim)) then
   rec3 f g h (wi (i+(1:Int))) j b c d k l (e++([(Step.mk (0:Int) (Tree.mk a.op a.n a.parts))]:LS))
  else none
 else rec3 f g h (wi (i+(1:Int))) j b c d k l e
def f93.s3' (L N:Nat) (self93:Tree->LT->Option (LS)) (k3_e7:Int->Int->LS->LS->LS->Option R) (rec3:Int->Int->Int->Int->Int->Int->Int->LT->LS->LS->LS->Option R) (d e:Int) (f a:Int) (c i j:Int) (k:LT) (g b h:LS):Option R:=
 bif (decide (a<f)) then
  bif (decide (0≤a)&&decide (a<(b.length:Int))) then
   bif (c !=(0:Int)) then
    f93.j0' L N self93 k3_e7 rec3 d e f a (c==(wi (0-(listAt b (Ty.dflt (.st 3)) a.toNat).act))) c i j k ((listAt b (Ty.dflt (.st 3)) a.toNat).act) ((listAt b (Ty.dflt (.st 3)) a.toNat).thn.op) ((listAt b (Ty.dflt (.st 3)) a.toNat).thn.n) ((listAt b (Ty.dflt (.st 3)) a.toNat).thn.parts) g b h
   else f93.j0' L N self93 k3_e7 rec3 d e f a false c i j k ((listAt b (Ty.dflt (.st 3)) a.toNat).act) ((listAt b (Ty.dflt (.st 3)) a.toNat).thn.op) ((listAt b (Ty.dflt (.st 3)) a.toNat).thn.n) ((listAt b (Ty.dflt (.st 3)) a.toNat).thn.parts) g b h
  else none
 else k3_e7 d e g b h
def f93.s3 (L N:Nat) (self93:Tree->LT->Option (LS)) (k3_e7:Int->Int->LS->LS->LS->Option R) (rec3:Int->Int->Int->Int->Int->Int->Int->LT->LS->LS->LS->Option R) (a b:Int) (c d:Int) (e f g:Int) (h:LT) (i j k:LS):Option R:=
 f93.s3' L N self93 k3_e7 rec3 a b c d e f g h i j k
def f93.l3 (L N:Nat) (self93:Tree->LT->Option (LS)) (k3_e7:Int->Int->LS->LS->LS->Option R):Nat->Int->Int->Int->Int->Int->Int->Int->LT->LS->LS->LS->Option R
 |0,_,_,_,_,_,_,_,_,_,_,_=>none
 |n+1,a,b,c,d,e,f,g,h,i,j,k=>f93.s3 L N self93 k3_e7 (f93.l3 L N self93 k3_e7 n) a b c d e f g h i j k
def f93.T3 (a b:Int) (c d:Int) (e f g:Int) (h:LT) (i j k:LS):T:=mkT 183 [(6,(.row 1059)),(7,(.row 1060)),(13,(.ptr 1013 0)),(101,(.row 1053)),(102,(.tv i64 a)),(103,(.tv i64 b)),(107,(.row 1059)),(108,(.tv i64 c)),(109,(.tv i64 d))]
def f93.H3 (h i:Int) (j k:Int) (a b c:Int) (d:LT) (e f g:LS):H:=[(1013,(.box [(.tv i64 a),(.tv i64 b),(.tv i64 c),(.tv (.sl (.st 1)) d)])),(1053,(.row 113 (.st 3) e)),(1059,(.row 113 (.st 3) f)),(1060,(.row 113 (.st 3) g))]
def f93.T3_e7 (a b:Int) (c d e:LS):T:=mkT 183 [(6,(.row 1059)),(7,(.row 1060)),(101,(.row 1053)),(102,(.tv i64 a)),(103,(.tv i64 b))]
def f93.H3_e7 (d e:Int) (a b c:LS):H:=[(1053,(.row 113 (.st 3) a)),(1059,(.row 113 (.st 3) b)),(1060,(.row 113 (.st 3) c))]
def f93.p3_e7' (L N:Nat) (self93:Tree->LT->Option (LS)) (k2_e5:LS->Option R) (rec2:Int->Int->LS->LS->LS->Option R) (a b:Int) (c d e:LS):Option R:=
 rec2 a (wi (b+(1:Int))) c d e
def f93.p3_e7 (L N:Nat) (self93:Tree->LT->Option (LS)) (k2_e5:LS->Option R) (rec2:Int->Int->LS->LS->LS->Option R) (a b:Int) (c d e:LS):Option R:=
 f93.p3_e7' L N self93 k2_e5 rec2 a b c d e
def f93.s2' (L N:Nat) (self93:Tree->LT->Option (LS)) (k2_e5:LS->Option R) (rec2:Int->Int->LS->LS->LS->Option R) (f:Int->Int->Int->Int->Int->Int->Int->LT->LS->LS->LS->Option R) (c a:Int) (b d e:LS):Option R:=
 bif (decide (a<c)) then
  bif (decide (0≤a)&&decide (a<(b.length:Int))) then
   f c a (d.length:Int) (0:Int) ((listAt b (Ty.dflt (.st 3)) a.toNat).act) ((listAt b (Ty.dflt (.st 3)) a.toNat).thn.op) ((listAt b (Ty.dflt (.st 3)) a.toNat).thn.n) ((listAt b (Ty.dflt (.st 3)) a.toNat).thn.parts) b d e
  else none
 else k2_e5 e
def f93.s2 (L N:Nat) (self93:Tree->LT->Option (LS)) (k2_e5:LS->Option R) (rec2:Int->Int->LS->LS->LS->Option R) (a b:Int) (c d e:LS):Option R:=
 f93.s2' L N self93 k2_e5 rec2 (fun f g h i j k l m n o p=>f93.l3 L N self93 (fun q r s t u=>f93.p3_e7 L N self93 k2_e5 rec2 q r s t u) L f g h i j k l m n o p) a b c d e
def f93.l2 (L N:Nat) (self93:Tree->LT->Option (LS)) (k2_e5:LS->Option R):Nat->Int->Int->LS->LS->LS->Option R
 |0,_,_,_,_,_=>none
 |n+1,a,b,c,d,e=>f93.s2 L N self93 k2_e5 (f93.l2 L N self93 k2_e5 n) a b c d e
def f93.T2 (a b:Int) (c d e:LS):T:=mkT 183 [(6,(.row 1059)),(7,(.row 1060)),(101,(.row 1053)),(102,(.tv i64 a)),(103,(.tv i64 b))]
def f93.H2 (d e:Int) (a b c:LS):H:=[(1053,(.row 113 (.st 3) a)),(1059,(.row 113 (.st 3) b)),(1060,(.row 113 (.st 3) c))]
def f93.T2_e5 (a:LS):T:=mkT 183 [(7,(.row 1060))]
def f93.H2_e5 (a:LS):H:=[(1060,(.row 113 (.st 3) a))]
def f93.p2_e5' (L N:Nat) (self93:Tree->LT->Option (LS)) (k:LS->Option R) (a:LS):Option R:=
 k a
def f93.p2_e5 (L N:Nat) (self93:Tree->LT->Option (LS)) (k:LS->Option R) (a:LS):Option R:=
 f93.p2_e5' L N self93 k a
def f93.p1_e3' (L N:Nat) (self93:Tree->LT->Option (LS)) (k:LS->Option R) (b:Int->Int->LS->LS->LS->Option R) (a c d:LS):Option R:=
 b (a.length:Int) (0:Int) a c d
def f93.p1_e3 (L N:Nat) (self93:Tree->LT->Option (LS)) (k:LS->Option R) (a b c:LS):Option R:=
 f93.p1_e3' L N self93 k (fun d e f g h=>f93.l2 L N self93 (fun i=>f93.p2_e5 L N self93 k i) L d e f g h) a b c
def f93.p0_e1' (L N:Nat) (self93:Tree->LT->Option (LS)) (k:LS->Option R) (b:Int->Int->Int->Int->LT->LS->LS->LS->Option R) (c d:Int) (e:LT) (f a g:LS):Option R:=
 b (a.length:Int) (0:Int) c d e f a g
def f93.p0_e1 (L N:Nat) (self93:Tree->LT->Option (LS)) (k:LS->Option R) (a b:Int) (c:LT) (d e f:LS):Option R:=
 f93.p0_e1' L N self93 k (fun g h i j l m n o=>f93.l1 L N self93 (fun p q r=>f93.p1_e3 L N self93 k p q r) L g h i j l m n o) a b c d e f
def f93.j1' (L N:Nat) (self93:Tree->LT->Option (LS)) (k4_e9:LS->Option R) (rec4:Int->Int->Int->Int->LT->LS->LS->Option R) (d e:Int) (j:Bool) (f b:Int) (g:LT) (h k l:Int) (m:LT) (c i:LS):Option R:=
 bif j then
  (f126 L N b (Tree.mk k l m)).bind fun a=>
  bif (decide (c.length+([(Step.mk h (Tree.mk a.op a.n a.parts))]:LS).length≤lim)) then
   rec4 d (wi (e+(1:Int))) f b g (c++([(Step.mk h (Tree.mk a.op a.n a.parts))]:LS)) i
  else none
 else rec4 d (wi (e+(1:Int))) f b g c i
def f93.s4' (L N:Nat) (self93:Tree->LT->Option (LS)) (k4_e9:LS->Option R) (rec4:Int->Int->Int->Int->LT->LS->LS->Option R) (c a:Int) (f d:Int) (g:LT) (e b:LS):Option R:=
 bif (decide (a<c)) then
  bif (decide (0≤a)&&decide (a<(b.length:Int))) then
   bif ((listAt b (Ty.dflt (.st 3)) a.toNat).act==(0:Int)) then
    f93.j1' L N self93 k4_e9 rec4 c a true f d g ((listAt b (Ty.dflt (.st 3)) a.toNat).act) ((listAt b (Ty.dflt (.st 3)) a.toNat).thn.op) ((listAt b (Ty.dflt (.st 3)) a.toNat).thn.n) ((listAt b (Ty.dflt (.st 3)) a.toNat).thn.parts) e b
   else (f89 L N ((listAt b (Ty.dflt (.st 3)) a.toNat).act)).bind fun h=>
   f93.j1' L N self93 k4_e9 rec4 c a (h !=d) f d g ((listAt b (Ty.dflt (.st 3)) a.toNat).act) ((listAt b (Ty.dflt (.st 3)) a.toNat).thn.op) ((listAt b (Ty.dflt (.st 3)) a.toNat).thn.n) ((listAt b (Ty.dflt (.st 3)) a.toNat).thn.parts) e b
  else none
 else k4_e9 e
def f93.s4 (L N:Nat) (self93:Tree->LT->Option (LS)) (k4_e9:LS->Option R) (rec4:Int->Int->Int->Int->LT->LS->LS->Option R) (a b:Int) (c d:Int) (e:LT) (f g:LS):Option R:=
 f93.s4' L N self93 k4_e9 rec4 a b c d e f g
def f93.l4 (L N:Nat) (self93:Tree->LT->Option (LS)) (k4_e9:LS->Option R):Nat->Int->Int->Int->Int->LT->LS->LS->Option R
 |0,_,_,_,_,_,_,_=>none
 |n+1,a,b,c,d,e,f,g=>f93.s4 L N self93 k4_e9 (f93.l4 L N self93 k4_e9 n) a b c d e f g
def f93.T4 (a b:Int) (c d:Int) (e:LT) (f g:LS):T:=mkT 183 [(2,(.ptr 1002 0)),(16,(.row 1138)),(144,(.row 1144)),(145,(.tv i64 a)),(146,(.tv i64 b))]
def f93.H4 (f g:Int) (a b:Int) (c:LT) (d e:LS):H:=[(1002,(.box [(.tv i64 a),(.tv i64 b),(.tv (.sl (.st 1)) c)])),(1138,(.row 113 (.st 3) d)),(1144,(.row 113 (.st 3) e))]
def f93.T4_e9 (a:LS):T:=mkT 183 [(16,(.row 1138))]
def f93.H4_e9 (a:LS):H:=[(1138,(.row 113 (.st 3) a))]
def f93.p4_e9' (L N:Nat) (self93:Tree->LT->Option (LS)) (k:LS->Option R) (a:LS):Option R:=
 k a
def f93.p4_e9 (L N:Nat) (self93:Tree->LT->Option (LS)) (k:LS->Option R) (a:LS):Option R:=
 f93.p4_e9' L N self93 k a
def f93.b' (L N:Nat) (self93:Tree->LT->Option (LS)) (k:LS->Option R) (g:Int->Int->Int->Int->LT->LS->LS->LS->Option R) (h:Int->Int->Int->Int->LT->LS->LS->Option R) (a:Tree) (b:LT):Option R:=
 bif (a.op==(1:Int)) then
  bif (decide (0≤(0:Int))&&decide ((0:Int)<(a.parts.length:Int))) then
   k ([(Step.mk a.n (Tree.mk ((listAt a.parts (Ty.dflt (.st 1)) (0:Int).toNat).op) ((listAt a.parts (Ty.dflt (.st 1)) (0:Int).toNat).n) ((listAt a.parts (Ty.dflt (.st 1)) (0:Int).toNat).parts)))]:LS)
  else none
 else bif (a.op==(2:Int)) then
  bif (decide (0≤(0:Int))&&decide ((0:Int)<(a.parts.length:Int))) then
   (self93 (listAt a.parts (Ty.dflt (.st 1)) (0:Int).toNat) b).bind fun c=>
   bif (decide (0≤(1:Int))&&decide ((1:Int)<(a.parts.length:Int))) then
    (self93 (listAt a.parts (Ty.dflt (.st 1)) (1:Int).toNat) b).bind fun d=>
    bif (decide (c.length+d.length≤lim)) then
     k (c++d)
    else none
   else none
  else none
 else bif (a.op==(3:Int)) then
  bif (decide (0≤(0:Int))&&decide ((0:Int)<(a.parts.length:Int))) then
   (self93 (listAt a.parts (Ty.dflt (.st 1)) (0:Int).toNat) b).bind fun e=>
   bif (decide (0≤(1:Int))&&decide ((1:Int)<(a.parts.length:Int))) then
    (self93 (listAt a.parts (Ty.dflt (.st 1)) (1:Int).toNat) b).bind fun i=>
    g (e.length:Int) (0:Int) a.op a.n a.parts e i ([]:LS)
   else none
  else none
 else bif (a.op==(4:Int)) then
  bif (decide (0≤(0:Int))&&decide ((0:Int)<(a.parts.length:Int))) then
   (self93 (listAt a.parts (Ty.dflt (.st 1)) (0:Int).toNat) b).bind fun f=>
   h (f.length:Int) (0:Int) a.op a.n a.parts ([]:LS) f
  else none
 else bif (a.op==(5:Int)) then
  bif (decide (0≤a.n)&&decide (a.n<(b.length:Int))) then
   (self93 (listAt b (Ty.dflt (.st 1)) a.n.toNat) b).bind fun j=>
   k j
  else none
 else k []
def f93.b (L N:Nat) (self93:Tree->LT->Option (LS)) (k:LS->Option R) (a:Tree) (c:LT):Option R:=
 f93.b' L N self93 k (fun d e f g h i j l=>f93.l0 L N self93 (fun m n o p q r=>f93.p0_e1 L N self93 k m n o p q r) L d e f g h i j l) (fun s t u v w x y=>f93.l4 L N self93 (fun z=>f93.p4_e9 L N self93 k z) L s t u v w x y) a c
def f93 (L N:Nat):Nat->Tree->LT->Option (LS)
 |0,_,_=>none
 |n+1,a,c=>f93.b L N (f93 L N n) some a c
def f93.ent (L N m:Nat) (args:List AV) (vw:View) (site:Nat):Ans:=match coeD [(.st 1),(.sl (.st 1))] vw args with
 |some (d,u)=>⟨LS,f93 L N m d.1 d.2.1,fun y=>(.row site,u++[(site,some (.row 113 (.st 3) y))],[])⟩
 |none=>Ans.no
def Φ93s (L N m:Nat):Tells:=(addT (Φ133 L N) 93 (f93.ent L N m))
noncomputable def E93 (L N m:Nat):Env:={P:=Tryz.prog,ty:=tyOf,Φ:=Φ93s L N m,inl:=inlT,live:=lives,liveX:=livesX,L:=L,dp:=none,prom:=promT,heal:=healT,ren:=renT}
noncomputable def f93.c0:Code:=loopAt 1 (codeOf Tryz.f93)
def f93.X0_e1 (κ:KX R):=fun a b c d e f=>κ (.exit 1) (f93.T0_e1 a b c d e f) (f93.H0_e1 a b c d e f)
def f93.R0 (rec:KT R):=fun a b c d e f g h=>rec (f93.T0 a b c d e f g h) (f93.H0 a b c d e f g h)
theorem f93.s0_eq (L N m:Nat) (κ:KX R) (rec:KT R) (a b:Int) (c d:Int) (e:LT) (f g h:LS):
  evRd (E93 L N m) (evCallI (E93 L N m) 0 1000) 1000 93 183 1 f93.c0 κ rec (f93.T0 a b c d e f g h) (f93.H0 a b c d e f g h)
  =f93.s0 L N (f93 L N m) (f93.X0_e1 κ) (f93.R0 rec) a b c d e f g h:=by kernel_rfl
theorem f93.l0_eq (L N m:Nat) (κ:KX R):∀(n:Nat) (a b:Int) (c d:Int) (e:LT) (f g h:LS),
  evLp (E93 L N m) (evCallI (E93 L N m) 0 1000) 1000 93 183 1 f93.c0 κ n (f93.T0 a b c d e f g h) (f93.H0 a b c d e f g h)
  =f93.l0 L N (f93 L N m) (f93.X0_e1 κ) n a b c d e f g h:=by
 intro n
 induction n with
 |zero=>intros;rfl
 |succ n ih=>
  intro a b c d e f g h
  rw [evLp_succ,f93.s0_eq]
  delta f93.R0
  simp only [ih]
  rfl
noncomputable def f93.c1:Code:=loopAt 3 (codeOf Tryz.f93)
def f93.X1_e3 (κ:KX R):=fun a b c=>κ (.exit 3) (f93.T1_e3 a b c) (f93.H1_e3 a b c)
def f93.R1 (rec:KT R):=fun a b c d e f g h=>rec (f93.T1 a b c d e f g h) (f93.H1 a b c d e f g h)
theorem f93.s1_eq (L N m:Nat) (κ:KX R) (rec:KT R) (a b:Int) (c d:Int) (e:LT) (f g h:LS):
  evRd (E93 L N m) (evCallI (E93 L N m) 0 1000) 1000 93 183 3 f93.c1 κ rec (f93.T1 a b c d e f g h) (f93.H1 a b c d e f g h)
  =f93.s1 L N (f93 L N m) (f93.X1_e3 κ) (f93.R1 rec) a b c d e f g h:=by kernel_rfl
theorem f93.l1_eq (L N m:Nat) (κ:KX R):∀(n:Nat) (a b:Int) (c d:Int) (e:LT) (f g h:LS),
  evLp (E93 L N m) (evCallI (E93 L N m) 0 1000) 1000 93 183 3 f93.c1 κ n (f93.T1 a b c d e f g h) (f93.H1 a b c d e f g h)
  =f93.l1 L N (f93 L N m) (f93.X1_e3 κ) n a b c d e f g h:=by
 intro n
 induction n with
 |zero=>intros;rfl
 |succ n ih=>
  intro a b c d e f g h
  rw [evLp_succ,f93.s1_eq]
  delta f93.R1
  simp only [ih]
  rfl
noncomputable def f93.c2:Code:=loopAt 5 (codeOf Tryz.f93)
noncomputable def f93.c3:Code:=loopAt 7 f93.c2
def f93.X3_e7 (κ:KX R):=fun a b c d e=>κ (.exit 7) (f93.T3_e7 a b c d e) (f93.H3_e7 a b c d e)
def f93.R3 (rec:KT R):=fun a b c d e f g h i j k=>rec (f93.T3 a b c d e f g h i j k) (f93.H3 a b c d e f g h i j k)
theorem f93.s3_eq (L N m:Nat) (κ:KX R) (rec:KT R) (a b:Int) (c d:Int) (e f g:Int) (h:LT) (i j k:LS):
  evRd (E93 L N m) (evCallI (E93 L N m) 0 1000) 1000 93 183 7 f93.c3 κ rec (f93.T3 a b c d e f g h i j k) (f93.H3 a b c d e f g h i j k)
  =f93.s3 L N (f93 L N m) (f93.X3_e7 κ) (f93.R3 rec) a b c d e f g h i j k:=by kernel_rfl
theorem f93.l3_eq (L N m:Nat) (κ:KX R):∀(n:Nat) (a b:Int) (c d:Int) (e f g:Int) (h:LT) (i j k:LS),
  evLp (E93 L N m) (evCallI (E93 L N m) 0 1000) 1000 93 183 7 f93.c3 κ n (f93.T3 a b c d e f g h i j k) (f93.H3 a b c d e f g h i j k)
  =f93.l3 L N (f93 L N m) (f93.X3_e7 κ) n a b c d e f g h i j k:=by
 intro n
 induction n with
 |zero=>intros;rfl
 |succ n ih=>
  intro a b c d e f g h i j k
  rw [evLp_succ,f93.s3_eq]
  delta f93.R3
  simp only [ih]
  rfl
def f93.X2_e5 (κ:KX R):=fun a=>κ (.exit 5) (f93.T2_e5 a) (f93.H2_e5 a)
def f93.R2 (rec:KT R):=fun a b c d e=>rec (f93.T2 a b c d e) (f93.H2 a b c d e)
theorem f93.p3_e7_eq (L N m:Nat) (κ:KX R) (rec:KT R) (a b:Int) (c d e:LS):
  (contAt (E93 L N m) (evCallI (E93 L N m) 0 1000) 1000 93 183 7 f93.c2 (rdK (E93 L N m) 1000 93 183 5 κ rec)) (.exit 7) (f93.T3_e7 a b c d e) (f93.H3_e7 a b c d e)
  =f93.p3_e7 L N (f93 L N m) (f93.X2_e5 κ) (f93.R2 rec) a b c d e:=by kernel_rfl
theorem f93.s2_eq (L N m:Nat) (κ:KX R) (rec:KT R) (a c:Int) (d e f:LS):
  evRd (E93 L N m) (evCallI (E93 L N m) 0 1000) 1000 93 183 5 f93.c2 κ rec (f93.T2 a c d e f) (f93.H2 a c d e f)
  =f93.s2 L N (f93 L N m) (f93.X2_e5 κ) (f93.R2 rec) a c d e f:=by
 refine Eq.trans (b:=f93.s2' L N (f93 L N m) (f93.X2_e5 κ) (f93.R2 rec) (fun g h i j k l n o p q r=>evLp (E93 L N m) (evCallI (E93 L N m) 0 1000) 1000 93 183 7 f93.c3 (contAt (E93 L N m) (evCallI (E93 L N m) 0 1000) 1000 93 183 7 f93.c2 (rdK (E93 L N m) 1000 93 183 5 κ rec)) L (f93.T3 g h i j k l n o p q r) (f93.H3 g h i j k l n o p q r)) a c d e f) (by kernel_rfl) ?_
 unfold f93.s2
 simp only [f93.l3_eq]
 delta f93.X3_e7
 simp only [f93.p3_e7_eq]
theorem f93.l2_eq (L N m:Nat) (κ:KX R):∀(n:Nat) (a b:Int) (c d e:LS),
  evLp (E93 L N m) (evCallI (E93 L N m) 0 1000) 1000 93 183 5 f93.c2 κ n (f93.T2 a b c d e) (f93.H2 a b c d e)
  =f93.l2 L N (f93 L N m) (f93.X2_e5 κ) n a b c d e:=by
 intro n
 induction n with
 |zero=>intros;rfl
 |succ n ih=>
  intro a b c d e
  rw [evLp_succ,f93.s2_eq]
  delta f93.R2
  simp only [ih]
  rfl
theorem f93.p2_e5_eq (L N m:Nat) (κ:List Step->Option R) (a:LS):
  (contAt (E93 L N m) (evCallI (E93 L N m) 0 1000) 1000 93 183 5 (codeOf Tryz.f93) (finK (E93 L N m) 1000 Tryz.f93 (finRow 113 (.st 3) κ))) (.exit 5) (f93.T2_e5 a) (f93.H2_e5 a)
  =f93.p2_e5 L N (f93 L N m) κ a:=by kernel_rfl
theorem f93.p1_e3_eq (L N m:Nat) (κ:List Step->Option R) (a c d:LS):
  (contAt (E93 L N m) (evCallI (E93 L N m) 0 1000) 1000 93 183 3 (codeOf Tryz.f93) (finK (E93 L N m) 1000 Tryz.f93 (finRow 113 (.st 3) κ))) (.exit 3) (f93.T1_e3 a c d) (f93.H1_e3 a c d)
  =f93.p1_e3 L N (f93 L N m) κ a c d:=by
 refine Eq.trans (b:=f93.p1_e3' L N (f93 L N m) κ (fun e f g h i=>evLp (E93 L N m) (evCallI (E93 L N m) 0 1000) 1000 93 183 5 f93.c2 (contAt (E93 L N m) (evCallI (E93 L N m) 0 1000) 1000 93 183 5 (codeOf Tryz.f93) (finK (E93 L N m) 1000 Tryz.f93 (finRow 113 (.st 3) κ))) L (f93.T2 e f g h i) (f93.H2 e f g h i)) a c d) (by kernel_rfl) ?_
 unfold f93.p1_e3
 simp only [f93.l2_eq]
 delta f93.X2_e5
 simp only [f93.p2_e5_eq]
theorem f93.p0_e1_eq (L N m:Nat) (κ:List Step->Option R) (a c:Int) (d:LT) (e f g:LS):
  (contAt (E93 L N m) (evCallI (E93 L N m) 0 1000) 1000 93 183 1 (codeOf Tryz.f93) (finK (E93 L N m) 1000 Tryz.f93 (finRow 113 (.st 3) κ))) (.exit 1) (f93.T0_e1 a c d e f g) (f93.H0_e1 a c d e f g)
  =f93.p0_e1 L N (f93 L N m) κ a c d e f g:=by
 refine Eq.trans (b:=f93.p0_e1' L N (f93 L N m) κ (fun h i j k l n o p=>evLp (E93 L N m) (evCallI (E93 L N m) 0 1000) 1000 93 183 3 f93.c1 (contAt (E93 L N m) (evCallI (E93 L N m) 0 1000) 1000 93 183 3 (codeOf Tryz.f93) (finK (E93 L N m) 1000 Tryz.f93 (finRow 113 (.st 3) κ))) L (f93.T1 h i j k l n o p) (f93.H1 h i j k l n o p)) a c d e f g) (by kernel_rfl) ?_
 unfold f93.p0_e1
 simp only [f93.l1_eq]
 delta f93.X1_e3
 simp only [f93.p1_e3_eq]
noncomputable def f93.c4:Code:=loopAt 9 (codeOf Tryz.f93)
def f93.X4_e9 (κ:KX R):=fun a=>κ (.exit 9) (f93.T4_e9 a) (f93.H4_e9 a)
def f93.R4 (rec:KT R):=fun a b c d e f g=>rec (f93.T4 a b c d e f g) (f93.H4 a b c d e f g)
theorem f93.s4_eq (L N m:Nat) (κ:KX R) (rec:KT R) (a b:Int) (c d:Int) (e:LT) (f g:LS):
  evRd (E93 L N m) (evCallI (E93 L N m) 0 1000) 1000 93 183 9 f93.c4 κ rec (f93.T4 a b c d e f g) (f93.H4 a b c d e f g)
  =f93.s4 L N (f93 L N m) (f93.X4_e9 κ) (f93.R4 rec) a b c d e f g:=by kernel_rfl
theorem f93.l4_eq (L N m:Nat) (κ:KX R):∀(n:Nat) (a b:Int) (c d:Int) (e:LT) (f g:LS),
  evLp (E93 L N m) (evCallI (E93 L N m) 0 1000) 1000 93 183 9 f93.c4 κ n (f93.T4 a b c d e f g) (f93.H4 a b c d e f g)
  =f93.l4 L N (f93 L N m) (f93.X4_e9 κ) n a b c d e f g:=by
 intro n
 induction n with
 |zero=>intros;rfl
 |succ n ih=>
  intro a b c d e f g
  rw [evLp_succ,f93.s4_eq]
  delta f93.R4
  simp only [ih]
  rfl
theorem f93.p4_e9_eq (L N m:Nat) (κ:List Step->Option R) (a:LS):
  (contAt (E93 L N m) (evCallI (E93 L N m) 0 1000) 1000 93 183 9 (codeOf Tryz.f93) (finK (E93 L N m) 1000 Tryz.f93 (finRow 113 (.st 3) κ))) (.exit 9) (f93.T4_e9 a) (f93.H4_e9 a)
  =f93.p4_e9 L N (f93 L N m) κ a:=by kernel_rfl
theorem f93.b_eq (L N m:Nat) (κ:List Step->Option R) (a:Tree) (c:LT):
  evBody (E93 L N m) (evCallI (E93 L N m) 0 1000) 1000 93 Tryz.f93 [(.tv (.st 1) a),(.tv (.sl (.st 1)) c)] [] [] (finRow 113 (.st 3) κ)
  =f93.b L N (f93 L N m) κ a c:=by
 refine Eq.trans (b:=f93.b' L N (f93 L N m) κ (fun d e f g h i j k=>evLp (E93 L N m) (evCallI (E93 L N m) 0 1000) 1000 93 183 1 f93.c0 (contAt (E93 L N m) (evCallI (E93 L N m) 0 1000) 1000 93 183 1 (codeOf Tryz.f93) (finK (E93 L N m) 1000 Tryz.f93 (finRow 113 (.st 3) κ))) L (f93.T0 d e f g h i j k) (f93.H0 d e f g h i j k)) (fun l n o p q r s=>evLp (E93 L N m) (evCallI (E93 L N m) 0 1000) 1000 93 183 9 f93.c4 (contAt (E93 L N m) (evCallI (E93 L N m) 0 1000) 1000 93 183 9 (codeOf Tryz.f93) (finK (E93 L N m) 1000 Tryz.f93 (finRow 113 (.st 3) κ))) L (f93.T4 l n o p q r s) (f93.H4 l n o p q r s)) a c) (by kernel_rfl) ?_
 unfold f93.b
 simp only [f93.l0_eq,f93.l4_eq]
 delta f93.X0_e1 f93.X4_e9
 simp only [f93.p0_e1_eq,f93.p4_e9_eq]
theorem f93.ok (L N m:Nat) (hΦ:TellsOk Tryz.prog (Φ93s L N m)):EntOk Tryz.prog 93 (f93.ent L N (m+1)):=by
 intro args vw site h
 unfold f93.ent
 split
 ·rename_i d u ha
  intro y hy hs
  refine call_row (dep:=1000) (E:=(E93 L N m)) (sound_of hΦ) okP (callI_sound (sound_of hΦ) okP 0 1000) (f:=Tryz.f93) rfl hs ha ?_ site
  exact (f93.b_eq L N m some d.1 d.2.1).trans hy
 ·intro y hy
  cases hy
theorem Φ93s_ok (L N:Nat):∀m,TellsOk Tryz.prog (Φ93s L N m):=by
 intro m
 induction m with
 |zero=>exact (addT_ok (Φ133_ok L N) (fun args vw site h=>by unfold f93.ent;split<;>(intro y hy;cases hy)))
 |succ m ih=>exact (addT_ok (Φ133_ok L N) (f93.ok L N m ih))
def Φ93 (L N:Nat):Tells:=(addT (Φ133 L N) 93 (f93.ent L N N))
theorem Φ93_ok (L N:Nat):TellsOk Tryz.prog (Φ93 L N):=Φ93s_ok L N N
def f105_1.s0' (L N:Nat) (k0_e0:LI->LT->Option R) (k0_r:Bool->LI->LT->Option R) (rec0:Int->Int->LI->LT->LS->Option R) (e a:Int) (c:LI) (d:LT) (b:LS):Option R:=
 bif (decide (a<e)) then
  bif (decide (0≤a)&&decide (a<(b.length:Int))) then
   (f81 L N N (Tree.mk ((listAt b (Ty.dflt (.st 3)) a.toNat).thn.op) ((listAt b (Ty.dflt (.st 3)) a.toNat).thn.n) ((listAt b (Ty.dflt (.st 3)) a.toNat).thn.parts)) (24:Int)).bind fun f=>
   bif (decide (f>(24:Int))) then
    k0_r false c d
   else bif (decide (c.length+([(listAt b (Ty.dflt (.st 3)) a.toNat).act]:LI).length≤lim)) then
    bif (decide (d.length+([(Tree.mk ((listAt b (Ty.dflt (.st 3)) a.toNat).thn.op) ((listAt b (Ty.dflt (.st 3)) a.toNat).thn.n) ((listAt b (Ty.dflt (.st 3)) a.toNat).thn.parts))]:LT).length≤lim)) then
     rec0 e (wi (a+(1:Int))) (c++([(listAt b (Ty.dflt (.st 3)) a.toNat).act]:LI)) (d++([(Tree.mk ((listAt b (Ty.dflt (.st 3)) a.toNat).thn.op) ((listAt b (Ty.dflt (.st 3)) a.toNat).thn.n) ((listAt b (Ty.dflt (.st 3)) a.toNat).thn.parts))]:LT)) b
    else none
   else none
  else none
 else k0_e0 c d
def f105_1.s0 (L N:Nat) (k0_e0:LI->LT->Option R) (k0_r:Bool->LI->LT->Option R) (rec0:Int->Int->LI->LT->LS->Option R) (a b:Int) (c:LI) (d:LT) (e:LS):Option R:=
 f105_1.s0' L N k0_e0 k0_r rec0 a b c d e
def f105_1.l0 (L N:Nat) (k0_e0:LI->LT->Option R) (k0_r:Bool->LI->LT->Option R):Nat->Int->Int->LI->LT->LS->Option R
 |0,_,_,_,_,_=>none
 |n+1,a,b,c,d,e=>f105_1.s0 L N k0_e0 k0_r (f105_1.l0 L N k0_e0 k0_r n) a b c d e
def f105_1.T0 (a b:Int) (c:LI) (d:LT) (e:LS):T:=mkT 37 [(6,(.row 1010)),(7,(.row 1011)),(14,(.row 1014)),(15,(.tv i64 a)),(16,(.tv i64 b))]
def f105_1.H0 (d e:Int) (a:LI) (b:LT) (c:LS):H:=[(1010,(.row 3 i64 a)),(1011,(.row 25 (.st 1) b)),(1014,(.row 113 (.st 3) c))]
def f105_1.T0_e0 (a:LI) (b:LT):T:=mkT 37 [(6,(.row 1010)),(7,(.row 1011))]
def f105_1.H0_e0 (a:LI) (b:LT):H:=[(1010,(.row 3 i64 a)),(1011,(.row 25 (.st 1) b))]
def f105_1.T0_r (a:Bool) (b:LI) (c:LT):T:=mkT 37 [(3,.nil),(4,.nil),(5,(.tv .bool a)),(6,(.row 1010)),(7,(.row 1011))]
def f105_1.H0_r (c:Bool) (a:LI) (b:LT):H:=[(1010,(.row 3 i64 a)),(1011,(.row 25 (.st 1) b))]
def f105_1.p0_e0' (L N:Nat) (k:LI->LT->Bool->Option R) (a:LI) (b:LT):Option R:=
 k a b true
def f105_1.p0_e0 (L N:Nat) (k:LI->LT->Bool->Option R) (a:LI) (b:LT):Option R:=
 f105_1.p0_e0' L N k a b
def f105_1.p0_r' (L N:Nat) (k:LI->LT->Bool->Option R) (a:Bool) (b:LI) (c:LT):Option R:=
 k [] [] a
def f105_1.p0_r (L N:Nat) (k:LI->LT->Bool->Option R) (a:Bool) (b:LI) (c:LT):Option R:=
 f105_1.p0_r' L N k a b c
def f105_1.b' (L N:Nat) (k:LI->LT->Bool->Option R) (c:Int->Int->LI->LT->LS->Option R) (a:Tree) (d:LT):Option R:=
 (f93 L N N (Tree.mk a.op a.n a.parts) d).bind fun b=>
 c (b.length:Int) (0:Int) ([]:LI) ([]:LT) b
def f105_1.b (L N:Nat) (k:LI->LT->Bool->Option R) (a:Tree) (c:LT):Option R:=
 f105_1.b' L N k (fun d e f g h=>f105_1.l0 L N (fun i j=>f105_1.p0_e0 L N k i j) (fun l m n=>f105_1.p0_r L N k l m n) L d e f g h) a c
def f105_1 (L N:Nat) (a:Tree) (c:LT):Option (LI×LT×Bool):=f105_1.b L N (fun a0 a1 a2=>some (a0,a1,a2)) a c
def f105_1.ent (L N:Nat):=entDf [(.dat (.st 1)),(.imp (.sl (.st 1)) 0)] (.many [(.sl i64),(.sl (.st 1)),.bool]) fun d=>f105_1 L N d.1 d.2.1
noncomputable def E105_1 (L N:Nat):Env:={P:=Tryz.prog,ty:=tyOf,Φ:=(Φ93 L N),inl:=inlT,live:=lives,liveX:=livesX,L:=L,dp:=none,prom:=promT,heal:=healT,ren:=renT,fresh:=fun s=>Nat.beq s 1028||Nat.beq s 1033}
noncomputable def f105_1.c0:Code:=loopAt 0 (codeOf Tryz.f105)
def f105_1.X0_e0 (κ:KX R):=fun a b=>κ (.exit 0) (f105_1.T0_e0 a b) (f105_1.H0_e0 a b)
def f105_1.X0_r (κ:KX R):=fun a b c=>κ .ret (f105_1.T0_r a b c) (f105_1.H0_r a b c)
def f105_1.R0 (rec:KT R):=fun a b c d e=>rec (f105_1.T0 a b c d e) (f105_1.H0 a b c d e)
theorem f105_1.s0_eq (L N:Nat) (κ:KX R) (rec:KT R) (a b:Int) (c:LI) (d:LT) (e:LS):
  evRd (E105_1 L N) (evCallI (E105_1 L N) 0 1000) 1000 105 37 0 f105_1.c0 κ rec (f105_1.T0 a b c d e) (f105_1.H0 a b c d e)
  =f105_1.s0 L N (f105_1.X0_e0 κ) (f105_1.X0_r κ) (f105_1.R0 rec) a b c d e:=by kernel_rfl
theorem f105_1.l0_eq (L N:Nat) (κ:KX R):∀(n:Nat) (a b:Int) (c:LI) (d:LT) (e:LS),
  evLp (E105_1 L N) (evCallI (E105_1 L N) 0 1000) 1000 105 37 0 f105_1.c0 κ n (f105_1.T0 a b c d e) (f105_1.H0 a b c d e)
  =f105_1.l0 L N (f105_1.X0_e0 κ) (f105_1.X0_r κ) n a b c d e:=by
 intro n
 induction n with
 |zero=>intros;rfl
 |succ n ih=>
  intro a b c d e
  rw [evLp_succ,f105_1.s0_eq]
  delta f105_1.R0
  simp only [ih]
  rfl
theorem f105_1.p0_e0_eq (L N:Nat) (κ:AV->Option R) (a:LI) (b:LT):
  (contAt (E105_1 L N) (evCallI (E105_1 L N) 0 1000) 1000 105 37 0 (codeOf Tryz.f105) (finK (E105_1 L N) 1000 Tryz.f105 (finC (.many [(.sl i64),(.sl (.st 1)),.bool]) κ))) (.exit 0) (f105_1.T0_e0 a b) (f105_1.H0_e0 a b)
  =f105_1.p0_e0 L N (fun a0 a1 a2=>κ (.tup [(.tv (.sl i64) a0),(.tv (.sl (.st 1)) a1),(.tv .bool a2)])) a b:=by kernel_rfl
theorem f105_1.p0_r_eq (L N:Nat) (κ:AV->Option R) (a:Bool) (b:LI) (c:LT):
  (contAt (E105_1 L N) (evCallI (E105_1 L N) 0 1000) 1000 105 37 0 (codeOf Tryz.f105) (finK (E105_1 L N) 1000 Tryz.f105 (finC (.many [(.sl i64),(.sl (.st 1)),.bool]) κ))) .ret (f105_1.T0_r a b c) (f105_1.H0_r a b c)
  =f105_1.p0_r L N (fun a0 a1 a2=>κ (.tup [(.tv (.sl i64) a0),(.tv (.sl (.st 1)) a1),(.tv .bool a2)])) a b c:=by kernel_rfl
theorem f105_1.b_eq (L N:Nat) (κ:AV->Option R) (a:Tree) (c:LT):
  evBody (E105_1 L N) (evCallI (E105_1 L N) 0 1000) 1000 105 Tryz.f105 [(.tv (.st 1) a),(.imp (.sl (.st 1)) c 0)] [] [] (finC (.many [(.sl i64),(.sl (.st 1)),.bool]) κ)
  =f105_1.b L N (fun a0 a1 a2=>κ (.tup [(.tv (.sl i64) a0),(.tv (.sl (.st 1)) a1),(.tv .bool a2)])) a c:=by
 refine Eq.trans (b:=f105_1.b' L N (fun a0 a1 a2=>κ (.tup [(.tv (.sl i64) a0),(.tv (.sl (.st 1)) a1),(.tv .bool a2)])) (fun d e f g h=>evLp (E105_1 L N) (evCallI (E105_1 L N) 0 1000) 1000 105 37 0 f105_1.c0 (contAt (E105_1 L N) (evCallI (E105_1 L N) 0 1000) 1000 105 37 0 (codeOf Tryz.f105) (finK (E105_1 L N) 1000 Tryz.f105 (finC (.many [(.sl i64),(.sl (.st 1)),.bool]) κ))) L (f105_1.T0 d e f g h) (f105_1.H0 d e f g h)) a c) (by kernel_rfl) ?_
 unfold f105_1.b
 simp only [f105_1.l0_eq]
 delta f105_1.X0_e0 f105_1.X0_r
 simp only [f105_1.p0_e0_eq,f105_1.p0_r_eq]
theorem f105_1.ok (L N:Nat) (hΦ:TellsOk Tryz.prog ((Φ93 L N))):EntOkO Tryz.prog 105 (f105_1.ent L N):=entDf_ok (E:=(E105_1 L N)) (dep:=1000) (f:=Tryz.f105) (sound_of hΦ) okP (callI_sound (sound_of hΦ) okP 0 1000) rfl fun d _ hy=>(f105_1.b_eq L N (unR (.many [(.sl i64),(.sl (.st 1)),.bool])) d.1 d.2.1).trans (Eq.trans (b:=f105_1.b L N (fun a0 a1 a2=>some (a0,a1,a2)) d.1 d.2.1) (by kernel_rfl) hy)
def Φ105_1 (L N:Nat):Tells:=(addO (Φ93 L N) 105 (f105_1.ent L N))
theorem Φ105_1_ok (L N:Nat):TellsOk Tryz.prog (Φ105_1 L N):=addO_ok (Φ93_ok L N) (f105_1.ok L N (Φ93_ok L N))
def f104_1.j0' (L N:Nat) (k1_e2:LT->Int->LT->(List (ByteArray×Int))->LM->LLM->LLM->Option R) (k1_r:LT->Bool->Int->LT->(List (ByteArray×Int))->LM->LLM->LLM->Option R) (rec1:LT->Int->LI->LT->Int->Int->LT->(List (ByteArray×Int))->LM->LLM->LLM->Option R) (e:LT) (f:Int) (a:LI) (b c:Int) (g:LT) (h i:Int) (j:LT) (k:(List (ByteArray×Int))) (d:LM) (l m:LLM):Option R:=
 bif (decide (0≤b)&&decide (b<(a.length:Int))) then
  bif (decide (d.length+([(Move.mk (listAt a (0:Int) b.toNat) c)]:LM).length≤lim)) then
   rec1 e f a g h (wi (i+(1:Int))) j k (d++([(Move.mk (listAt a (0:Int) b.toNat) c)]:LM)) l m
  else none
 else none
def f104_1.s1' (L N:Nat) (k1_e2:LT->Int->LT->(List (ByteArray×Int))->LM->LLM->LLM->Option R) (k1_r:LT->Bool->Int->LT->(List (ByteArray×Int))->LM->LLM->LLM->Option R) (rec1:LT->Int->LI->LT->Int->Int->LT->(List (ByteArray×Int))->LM->LLM->LLM->Option R) (e:LT) (f:Int) (l:LI) (b:LT) (j a:Int) (c:LT) (d:(List (ByteArray×Int))) (g:LM) (h i:LLM):Option R:=
 bif (decide (a<j)) then
  bif (decide (0≤a)&&decide (a<(b.length:Int))) then
   (f92 L N N (Tree.mk ((listAt b (Ty.dflt (.st 1)) a.toNat).op) ((listAt b (Ty.dflt (.st 1)) a.toNat).n) ((listAt b (Ty.dflt (.st 1)) a.toNat).parts))).bind fun k=>
   bif (!(Option.isSome (mapFind .str i64 k d))) then
    bif ((c.length:Int)==(60:Int)) then
     k1_r e false f c d g h i
    else bif (decide (c.length+([(Tree.mk ((listAt b (Ty.dflt (.st 1)) a.toNat).op) ((listAt b (Ty.dflt (.st 1)) a.toNat).n) ((listAt b (Ty.dflt (.st 1)) a.toNat).parts))]:LT).length≤lim)) then
     f104_1.j0' L N k1_e2 k1_r rec1 e f l a (c.length:Int) b j a (c++([(Tree.mk ((listAt b (Ty.dflt (.st 1)) a.toNat).op) ((listAt b (Ty.dflt (.st 1)) a.toNat).n) ((listAt b (Ty.dflt (.st 1)) a.toNat).parts))]:LT)) (mapPut .str i64 k (c.length:Int) d) g h i
    else none
   else f104_1.j0' L N k1_e2 k1_r rec1 e f l a ((mapFind .str i64 k d).getD (Ty.dflt i64)) b j a c d g h i
  else none
 else k1_e2 e f c d g h i
def f104_1.s1 (L N:Nat) (k1_e2:LT->Int->LT->(List (ByteArray×Int))->LM->LLM->LLM->Option R) (k1_r:LT->Bool->Int->LT->(List (ByteArray×Int))->LM->LLM->LLM->Option R) (rec1:LT->Int->LI->LT->Int->Int->LT->(List (ByteArray×Int))->LM->LLM->LLM->Option R) (a:LT) (b:Int) (c:LI) (d:LT) (e f:Int) (g:LT) (h:(List (ByteArray×Int))) (i:LM) (j k:LLM):Option R:=
 f104_1.s1' L N k1_e2 k1_r rec1 a b c d e f g h i j k
def f104_1.l1 (L N:Nat) (k1_e2:LT->Int->LT->(List (ByteArray×Int))->LM->LLM->LLM->Option R) (k1_r:LT->Bool->Int->LT->(List (ByteArray×Int))->LM->LLM->LLM->Option R):Nat->LT->Int->LI->LT->Int->Int->LT->(List (ByteArray×Int))->LM->LLM->LLM->Option R
 |0,_,_,_,_,_,_,_,_,_,_,_=>none
 |n+1,a,b,c,d,e,f,g,h,i,j,k=>f104_1.s1 L N k1_e2 k1_r (f104_1.l1 L N k1_e2 k1_r n) a b c d e f g h i j k
def f104_1.T1 (a:LT) (b:Int) (c:LI) (d:LT) (e f:Int) (g:LT) (h:(List (ByteArray×Int))) (i:LM) (j k:LLM):T:=mkT 97 [(1,(.fn 92 [])),(2,(.fn 105 [(.imp (.sl (.st 1)) a 0)])),(6,(.ptr 1006 0)),(8,(.row 1022)),(9,(.mp 1023)),(10,(.ptr 1010 0)),(11,(.tv i64 b)),(12,(.tv (.sl i64) c)),(15,(.row 1048)),(49,(.tv (.sl (.st 1)) d)),(50,(.tv i64 e)),(51,(.tv i64 f))]
def f104_1.H1 (f:LT) (g:Int) (h:LI) (i:LT) (j k:Int) (a:LT) (b:(List (ByteArray×Int))) (c:LM) (d e:LLM):H:=[(1006,(.box [(.row 1900)])),(1010,(.box [(.row 1901)])),(1022,(.row 25 (.st 1) a)),(1023,(.map .str i64 b)),(1048,(.row 63 (.st 0) c)),(1900,(.deep 0 (.sl (.st 0)) d none)),(1901,(.deep 0 (.sl (.st 0)) e none))]
def f104_1.T1_e2 (a:LT) (b:Int) (c:LT) (d:(List (ByteArray×Int))) (e:LM) (f g:LLM):T:=mkT 97 [(1,(.fn 92 [])),(2,(.fn 105 [(.imp (.sl (.st 1)) a 0)])),(6,(.ptr 1006 0)),(8,(.row 1022)),(9,(.mp 1023)),(10,(.ptr 1010 0)),(11,(.tv i64 b)),(15,(.row 1048))]
def f104_1.H1_e2 (f:LT) (g:Int) (a:LT) (b:(List (ByteArray×Int))) (c:LM) (d e:LLM):H:=[(1006,(.box [(.row 1900)])),(1010,(.box [(.row 1901)])),(1022,(.row 25 (.st 1) a)),(1023,(.map .str i64 b)),(1048,(.row 63 (.st 0) c)),(1900,(.deep 0 (.sl (.st 0)) d none)),(1901,(.deep 0 (.sl (.st 0)) e none))]
def f104_1.T1_r (a:LT) (b:Bool) (c:Int) (d:LT) (e:(List (ByteArray×Int))) (f:LM) (g h:LLM):T:=mkT 97 [(1,(.fn 92 [])),(2,(.fn 105 [(.imp (.sl (.st 1)) a 0)])),(6,(.ptr 1006 0)),(7,(.tv .bool b)),(8,(.row 1022)),(9,(.mp 1023)),(10,(.ptr 1010 0)),(11,(.tv i64 c)),(15,(.row 1048))]
def f104_1.H1_r (f:LT) (g:Bool) (h:Int) (a:LT) (b:(List (ByteArray×Int))) (c:LM) (d e:LLM):H:=[(1006,(.box [.nil])),(1010,(.box [(.row 1901)])),(1022,(.row 25 (.st 1) a)),(1023,(.map .str i64 b)),(1048,(.row 63 (.st 0) c)),(1900,(.deep 0 (.sl (.st 0)) d none)),(1901,(.deep 0 (.sl (.st 0)) e none))]
def f104_1.p1_e2' (L N:Nat) (k0_e0:LLM->LLM->Option R) (k0_r:Bool->LLM->LLM->Option R) (rec0:LT->Int->LT->(List (ByteArray×Int))->LLM->LLM->Option R) (c:LT) (d:Int) (e:LT) (f:(List (ByteArray×Int))) (a:LM) (g b:LLM):Option R:=
 ((fsortM a)).bind fun h=>
 bif (decide (b.length+([(tidyM a)]:LLM).length≤lim)) then
  rec0 c (wi (d+(1:Int))) e f g (b++([(tidyM a)]:LLM))
 else none
def f104_1.p1_e2 (L N:Nat) (k0_e0:LLM->LLM->Option R) (k0_r:Bool->LLM->LLM->Option R) (rec0:LT->Int->LT->(List (ByteArray×Int))->LLM->LLM->Option R) (a:LT) (b:Int) (c:LT) (d:(List (ByteArray×Int))) (e:LM) (f g:LLM):Option R:=
 f104_1.p1_e2' L N k0_e0 k0_r rec0 a b c d e f g
def f104_1.p1_r' (L N:Nat) (k0_e0:LLM->LLM->Option R) (k0_r:Bool->LLM->LLM->Option R) (rec0:LT->Int->LT->(List (ByteArray×Int))->LLM->LLM->Option R) (d:LT) (a:Bool) (e:Int) (f:LT) (g:(List (ByteArray×Int))) (h:LM) (b c:LLM):Option R:=
 k0_r a b c
def f104_1.p1_r (L N:Nat) (k0_e0:LLM->LLM->Option R) (k0_r:Bool->LLM->LLM->Option R) (rec0:LT->Int->LT->(List (ByteArray×Int))->LLM->LLM->Option R) (a:LT) (b:Bool) (c:Int) (d:LT) (e:(List (ByteArray×Int))) (f:LM) (g h:LLM):Option R:=
 f104_1.p1_r' L N k0_e0 k0_r rec0 a b c d e f g h
def f104_1.s0' (L N:Nat) (k0_e0:LLM->LLM->Option R) (k0_r:Bool->LLM->LLM->Option R) (rec0:LT->Int->LT->(List (ByteArray×Int))->LLM->LLM->Option R) (g:LT->Int->LI->LT->Int->Int->LT->(List (ByteArray×Int))->LM->LLM->LLM->Option R) (f:LT) (a:Int) (b:LT) (h:(List (ByteArray×Int))) (d e:LLM):Option R:=
 bif (decide (a<(b.length:Int))) then
  bif (decide (0≤a)&&decide (a<(b.length:Int))) then
   (f105_1 L N (listAt b (Ty.dflt (.st 1)) a.toNat) f).bind fun c=>
   bif (!c.2.2) then
    k0_r false d e
   else g f a c.1 c.2.1 (c.2.1.length:Int) (0:Int) b h ([]:LM) d e
  else none
 else k0_e0 d e
def f104_1.s0 (L N:Nat) (k0_e0:LLM->LLM->Option R) (k0_r:Bool->LLM->LLM->Option R) (rec0:LT->Int->LT->(List (ByteArray×Int))->LLM->LLM->Option R) (a:LT) (b:Int) (c:LT) (d:(List (ByteArray×Int))) (e f:LLM):Option R:=
 f104_1.s0' L N k0_e0 k0_r rec0 (fun g h i j k l m n o p q=>f104_1.l1 L N (fun r s t u v w x=>f104_1.p1_e2 L N k0_e0 k0_r rec0 r s t u v w x) (fun y z A B C D E F=>f104_1.p1_r L N k0_e0 k0_r rec0 y z A B C D E F) L g h i j k l m n o p q) a b c d e f
def f104_1.l0 (L N:Nat) (k0_e0:LLM->LLM->Option R) (k0_r:Bool->LLM->LLM->Option R):Nat->LT->Int->LT->(List (ByteArray×Int))->LLM->LLM->Option R
 |0,_,_,_,_,_,_=>none
 |n+1,a,b,c,d,e,f=>f104_1.s0 L N k0_e0 k0_r (f104_1.l0 L N k0_e0 k0_r n) a b c d e f
def f104_1.T0 (a:LT) (b:Int) (c:LT) (d:(List (ByteArray×Int))) (e f:LLM):T:=mkT 97 [(1,(.fn 92 [])),(2,(.fn 105 [(.imp (.sl (.st 1)) a 0)])),(6,(.ptr 1006 0)),(8,(.row 1022)),(9,(.mp 1023)),(10,(.ptr 1010 0)),(11,(.tv i64 b))]
def f104_1.H0 (e:LT) (f:Int) (a:LT) (b:(List (ByteArray×Int))) (c d:LLM):H:=[(1006,(.box [(.row 1900)])),(1010,(.box [(.row 1901)])),(1022,(.row 25 (.st 1) a)),(1023,(.map .str i64 b)),(1900,(.deep 0 (.sl (.st 0)) c none)),(1901,(.deep 0 (.sl (.st 0)) d none))]
def f104_1.T0_e0 (a b:LLM):T:=mkT 97 [(6,(.ptr 1006 0)),(10,(.ptr 1010 0))]
def f104_1.H0_e0 (a b:LLM):H:=[(1006,(.box [(.row 1900)])),(1010,(.box [(.row 1901)])),(1900,(.deep 0 (.sl (.st 0)) a none)),(1901,(.deep 0 (.sl (.st 0)) b none))]
def f104_1.T0_r (a:Bool) (b c:LLM):T:=mkT 97 [(6,(.ptr 1006 0)),(7,(.tv .bool a)),(10,(.ptr 1010 0))]
def f104_1.H0_r (c:Bool) (a b:LLM):H:=[(1006,(.box [.nil])),(1010,(.box [(.row 1901)])),(1900,(.deep 0 (.sl (.st 0)) a none)),(1901,(.deep 0 (.sl (.st 0)) b none))]
def f104_1.p0_e0' (L N:Nat) (k:LLM->Bool->Option R) (b a:LLM):Option R:=
 k a true
def f104_1.p0_e0 (L N:Nat) (k:LLM->Bool->Option R) (a b:LLM):Option R:=
 f104_1.p0_e0' L N k a b
def f104_1.p0_r' (L N:Nat) (k:LLM->Bool->Option R) (a:Bool) (b c:LLM):Option R:=
 k [] a
def f104_1.p0_r (L N:Nat) (k:LLM->Bool->Option R) (a:Bool) (b c:LLM):Option R:=
 f104_1.p0_r' L N k a b c
def f104_1.b' (L N:Nat) (k:LLM->Bool->Option R) (b:LT->Int->LT->(List (ByteArray×Int))->LLM->LLM->Option R) (a:Tree) (c:LT):Option R:=
 (f92 L N N (Tree.mk a.op a.n a.parts)).bind fun d=>
 b c (0:Int) ([(Tree.mk a.op a.n a.parts)]:LT) (mapPut .str i64 d (0:Int) ([]:(List (ByteArray×Int)))) ([]:LLM) ([]:LLM)
def f104_1.b (L N:Nat) (k:LLM->Bool->Option R) (a:Tree) (c:LT):Option R:=
 f104_1.b' L N k (fun d e f g h i=>f104_1.l0 L N (fun j l=>f104_1.p0_e0 L N k j l) (fun m n o=>f104_1.p0_r L N k m n o) L d e f g h i) a c
def f104_1 (L N:Nat) (a:Tree) (c:LT):Option (LLM×Bool):=f104_1.b L N (fun a0 a1=>some (a0,a1)) a c
def f104_1.ent (L N:Nat) (args:List AV) (vw:View) (site:Nat):Option Ans:=match shD [(.dat (.st 1)),(.fn 92 []),(.fn 105 [(.imp (.sl (.st 1)) 0)])] vw args with
 |some d=>some ⟨LLM×Bool,f104_1 L N d.1 d.2.2.1.1,fun y=>(RN.av site (.tup (.agg []) [.bool]) ((()),(y.2,())),[(site,some (mkO (some 0) 61 (.sl (.st 0)) y.1))],[])⟩
 |none=>none
noncomputable def E104_1 (L N:Nat):Env:={P:=Tryz.prog,ty:=tyOf,Φ:=(Φ105_1 L N),inl:=inlT,live:=lives,liveX:=livesX,L:=L,dp:=(some 100),prom:=promT,heal:=healT,ren:=renT}
noncomputable def f104_1.c0:Code:=loopAt 0 (codeOf Tryz.f104)
noncomputable def f104_1.c1:Code:=loopAt 2 f104_1.c0
def f104_1.X1_e2 (κ:KX R):=fun a b c d e f g=>κ (.exit 2) (f104_1.T1_e2 a b c d e f g) (f104_1.H1_e2 a b c d e f g)
def f104_1.X1_r (κ:KX R):=fun a b c d e f g h=>κ .ret (f104_1.T1_r a b c d e f g h) (f104_1.H1_r a b c d e f g h)
def f104_1.R1 (rec:KT R):=fun a b c d e f g h i j k=>rec (f104_1.T1 a b c d e f g h i j k) (f104_1.H1 a b c d e f g h i j k)
theorem f104_1.s1_eq (L N:Nat) (κ:KX R) (rec:KT R) (a:LT) (b:Int) (c:LI) (d:LT) (e f:Int) (g:LT) (h:(List (ByteArray×Int))) (i:LM) (j k:LLM):
  evRd (E104_1 L N) (evCallI (E104_1 L N) 0 1000) 1000 104 97 2 f104_1.c1 κ rec (f104_1.T1 a b c d e f g h i j k) (f104_1.H1 a b c d e f g h i j k)
  =f104_1.s1 L N (f104_1.X1_e2 κ) (f104_1.X1_r κ) (f104_1.R1 rec) a b c d e f g h i j k:=by kernel_rfl
theorem f104_1.l1_eq (L N:Nat) (κ:KX R):∀(n:Nat) (a:LT) (b:Int) (c:LI) (d:LT) (e f:Int) (g:LT) (h:(List (ByteArray×Int))) (i:LM) (j k:LLM),
  evLp (E104_1 L N) (evCallI (E104_1 L N) 0 1000) 1000 104 97 2 f104_1.c1 κ n (f104_1.T1 a b c d e f g h i j k) (f104_1.H1 a b c d e f g h i j k)
  =f104_1.l1 L N (f104_1.X1_e2 κ) (f104_1.X1_r κ) n a b c d e f g h i j k:=by
 intro n
 induction n with
 |zero=>intros;rfl
 |succ n ih=>
  intro a b c d e f g h i j k
  rw [evLp_succ,f104_1.s1_eq]
  delta f104_1.R1
  simp only [ih]
  rfl
def f104_1.X0_e0 (κ:KX R):=fun a b=>κ (.exit 0) (f104_1.T0_e0 a b) (f104_1.H0_e0 a b)
def f104_1.X0_r (κ:KX R):=fun a b c=>κ .ret (f104_1.T0_r a b c) (f104_1.H0_r a b c)
def f104_1.R0 (rec:KT R):=fun a b c d e f=>rec (f104_1.T0 a b c d e f) (f104_1.H0 a b c d e f)
theorem f104_1.p1_e2_eq (L N:Nat) (κ:KX R) (rec:KT R) (a:LT) (b:Int) (c:LT) (d:(List (ByteArray×Int))) (e:LM) (f g:LLM):
  (contAt (E104_1 L N) (evCallI (E104_1 L N) 0 1000) 1000 104 97 2 f104_1.c0 (rdK (E104_1 L N) 1000 104 97 0 κ rec)) (.exit 2) (f104_1.T1_e2 a b c d e f g) (f104_1.H1_e2 a b c d e f g)
  =f104_1.p1_e2 L N (f104_1.X0_e0 κ) (f104_1.X0_r κ) (f104_1.R0 rec) a b c d e f g:=by kernel_rfl
theorem f104_1.p1_r_eq (L N:Nat) (κ:KX R) (rec:KT R) (a:LT) (b:Bool) (c:Int) (d:LT) (e:(List (ByteArray×Int))) (f:LM) (g h:LLM):
  (contAt (E104_1 L N) (evCallI (E104_1 L N) 0 1000) 1000 104 97 2 f104_1.c0 (rdK (E104_1 L N) 1000 104 97 0 κ rec)) .ret (f104_1.T1_r a b c d e f g h) (f104_1.H1_r a b c d e f g h)
  =f104_1.p1_r L N (f104_1.X0_e0 κ) (f104_1.X0_r κ) (f104_1.R0 rec) a b c d e f g h:=by kernel_rfl
theorem f104_1.s0_eq (L N:Nat) (κ:KX R) (rec:KT R) (a:LT) (c:Int) (d:LT) (e:(List (ByteArray×Int))) (f g:LLM):
  evRd (E104_1 L N) (evCallI (E104_1 L N) 0 1000) 1000 104 97 0 f104_1.c0 κ rec (f104_1.T0 a c d e f g) (f104_1.H0 a c d e f g)
  =f104_1.s0 L N (f104_1.X0_e0 κ) (f104_1.X0_r κ) (f104_1.R0 rec) a c d e f g:=by
 refine Eq.trans (b:=f104_1.s0' L N (f104_1.X0_e0 κ) (f104_1.X0_r κ) (f104_1.R0 rec) (fun h i j k l m n o p q r=>evLp (E104_1 L N) (evCallI (E104_1 L N) 0 1000) 1000 104 97 2 f104_1.c1 (contAt (E104_1 L N) (evCallI (E104_1 L N) 0 1000) 1000 104 97 2 f104_1.c0 (rdK (E104_1 L N) 1000 104 97 0 κ rec)) L (f104_1.T1 h i j k l m n o p q r) (f104_1.H1 h i j k l m n o p q r)) a c d e f g) (by kernel_rfl) ?_
 unfold f104_1.s0
 simp only [f104_1.l1_eq]
 delta f104_1.X1_e2 f104_1.X1_r
 simp only [f104_1.p1_e2_eq,f104_1.p1_r_eq]
theorem f104_1.l0_eq (L N:Nat) (κ:KX R):∀(n:Nat) (a:LT) (b:Int) (c:LT) (d:(List (ByteArray×Int))) (e f:LLM),
  evLp (E104_1 L N) (evCallI (E104_1 L N) 0 1000) 1000 104 97 0 f104_1.c0 κ n (f104_1.T0 a b c d e f) (f104_1.H0 a b c d e f)
  =f104_1.l0 L N (f104_1.X0_e0 κ) (f104_1.X0_r κ) n a b c d e f:=by
 intro n
 induction n with
 |zero=>intros;rfl
 |succ n ih=>
  intro a b c d e f
  rw [evLp_succ,f104_1.s0_eq]
  delta f104_1.R0
  simp only [ih]
  rfl
theorem f104_1.p0_e0_eq (L N:Nat) (κ:RN.Den (.tup (.agg []) [.bool])->List LM->Option R) (a b:LLM):
  (contAt (E104_1 L N) (evCallI (E104_1 L N) 0 1000) 1000 104 97 0 (codeOf Tryz.f104) (finK (E104_1 L N) 1000 Tryz.f104 (finN (.tup (.agg []) [.bool]) (some 0) 61 (.sl (.st 0)) κ))) (.exit 0) (f104_1.T0_e0 a b) (f104_1.H0_e0 a b)
  =f104_1.p0_e0 L N (fun a0 a1=>κ ((()),(a1,())) a0) a b:=by kernel_rfl
theorem f104_1.p0_r_eq (L N:Nat) (κ:RN.Den (.tup (.agg []) [.bool])->List LM->Option R) (a:Bool) (b c:LLM):
  (contAt (E104_1 L N) (evCallI (E104_1 L N) 0 1000) 1000 104 97 0 (codeOf Tryz.f104) (finK (E104_1 L N) 1000 Tryz.f104 (finN (.tup (.agg []) [.bool]) (some 0) 61 (.sl (.st 0)) κ))) .ret (f104_1.T0_r a b c) (f104_1.H0_r a b c)
  =f104_1.p0_r L N (fun a0 a1=>κ ((()),(a1,())) a0) a b c:=by kernel_rfl
theorem f104_1.b_eq (L N:Nat) (κ:RN.Den (.tup (.agg []) [.bool])->List LM->Option R) (a:Tree) (c:LT):
  evBody (E104_1 L N) (evCallI (E104_1 L N) 0 1000) 1000 104 Tryz.f104 [(.tv (.st 1) a),(.fn 92 []),(.fn 105 [(.imp (.sl (.st 1)) c 0)])] [] [] (finN (.tup (.agg []) [.bool]) (some 0) 61 (.sl (.st 0)) κ)
  =f104_1.b L N (fun a0 a1=>κ ((()),(a1,())) a0) a c:=by
 refine Eq.trans (b:=f104_1.b' L N (fun a0 a1=>κ ((()),(a1,())) a0) (fun d e f g h i=>evLp (E104_1 L N) (evCallI (E104_1 L N) 0 1000) 1000 104 97 0 f104_1.c0 (contAt (E104_1 L N) (evCallI (E104_1 L N) 0 1000) 1000 104 97 0 (codeOf Tryz.f104) (finK (E104_1 L N) 1000 Tryz.f104 (finN (.tup (.agg []) [.bool]) (some 0) 61 (.sl (.st 0)) κ))) L (f104_1.T0 d e f g h i) (f104_1.H0 d e f g h i)) a c) (by kernel_rfl) ?_
 unfold f104_1.b
 simp only [f104_1.l0_eq]
 delta f104_1.X0_e0 f104_1.X0_r
 simp only [f104_1.p0_e0_eq,f104_1.p0_r_eq]
theorem f104_1.ok (L N:Nat) (hΦ:TellsOk Tryz.prog ((Φ105_1 L N))):EntOkO Tryz.prog 104 (f104_1.ent L N):=by
 intro args vw site h a ha
 unfold f104_1.ent at ha
 split at ha
 ·rename_i d hd
  obtain rfl:=Option.some.inj ha
  intro y hy hs
  refine call_ronF (y:=y) (dep:=1000) (E:=(E104_1 L N)) (rn:=(.tup (.agg []) [.bool])) (q:=(some 0)) (el:=61) (ty:=(.sl (.st 0))) (d1:=((()),(y.2,()))) (xs:=y.1) (κ:=(fun d xs=>some (xs,d.2.1))) (sound_of hΦ) okP (callI_sound (sound_of hΦ) okP 0 1000) (f:=Tryz.f104) rfl hs hd ?_ (fun _ _ h=>by obtain rfl:=Option.some.inj h;exact ⟨rfl,rfl⟩) rfl site
  exact (f104_1.b_eq L N (fun d xs=>some (xs,d.2.1)) d.1 d.2.2.1.1).trans (Eq.trans (b:=f104_1.b L N (fun a0 a1=>some (a0,a1)) d.1 d.2.2.1.1) (by kernel_rfl) hy)
 ·cases ha
def Φ104_1 (L N:Nat):Tells:=(addO (Φ105_1 L N) 104 (f104_1.ent L N))
theorem Φ104_1_ok (L N:Nat):TellsOk Tryz.prog (Φ104_1 L N):=addO_ok (Φ105_1_ok L N) (f104_1.ok L N (Φ105_1_ok L N))
def f65.b' (L N:Nat) (k:Graph->Bool->Option R) (a:Tree) (b:LT):Option R:=
 (f102 L N b).bind fun d=>
 bif (!d) then
  k (Graph.mk []) false
 else (f103 L N (Tree.mk a.op a.n a.parts) (b.length:Int)).bind fun e=>
 bif (!e) then
  k (Graph.mk []) false
 else (f104_1 L N (Tree.mk a.op a.n a.parts) b).bind fun c=>
 k (Graph.mk c.1) c.2
def f65.b (L N:Nat) (k:Graph->Bool->Option R) (a:Tree) (c:LT):Option R:=
 f65.b' L N k a c
def f65 (L N:Nat) (a:Tree) (c:LT):Option (Graph×Bool):=f65.b L N (fun a0 a1=>some (a0,a1)) a c
def f65.ent (L N:Nat):=entDa [(.st 1),(.sl (.st 1))] (.many [(.st 2),.bool]) fun d=>f65 L N d.1 d.2.1
noncomputable def E65 (L N:Nat):Env:={P:=Tryz.prog,ty:=tyOf,Φ:=(Φ104_1 L N),inl:=inlT,live:=lives,liveX:=livesX,L:=L,dp:=none,prom:=promT,heal:=healT,ren:=renT}
theorem f65.b_eq (L N:Nat) (κ:AV->Option R) (a:Tree) (c:LT):
  evBody (E65 L N) (evCallI (E65 L N) 0 1000) 1000 65 Tryz.f65 [(.tv (.st 1) a),(.tv (.sl (.st 1)) c)] [] [] (finC (.many [(.st 2),.bool]) κ)
  =f65.b L N (fun a0 a1=>κ (.tup [(.tv (.st 2) a0),(.tv .bool a1)])) a c:=by kernel_rfl
theorem f65.ok (L N:Nat) (hΦ:TellsOk Tryz.prog ((Φ104_1 L N))):EntOk Tryz.prog 65 (f65.ent L N):=entDa_ok (E:=(E65 L N)) (dep:=1000) (f:=Tryz.f65) (sound_of hΦ) okP (callI_sound (sound_of hΦ) okP 0 1000) rfl fun d _ hy=>(f65.b_eq L N (unR (.many [(.st 2),.bool])) d.1 d.2.1).trans (Eq.trans (b:=f65.b L N (fun a0 a1=>some (a0,a1)) d.1 d.2.1) (by kernel_rfl) hy)
def Φ65 (L N:Nat):Tells:=(addT (Φ104_1 L N) 65 (f65.ent L N))
theorem Φ65_ok (L N:Nat):TellsOk Tryz.prog (Φ65 L N):=addT_ok (Φ104_1_ok L N) (f65.ok L N (Φ104_1_ok L N))
def f184.b' (L N:Nat) (k:Bool->Option R) (a:Int):Option R:=
 k (a !=a)
def f184.b (L N:Nat) (k:Bool->Option R) (a:Int):Option R:=
 f184.b' L N k a
def f184 (L N:Nat) (a:Int):Option (Bool):=f184.b L N some a
def f184.ent (L N:Nat):=entRo [i64] (.one .bool) fun d=>f184 L N d.1
noncomputable def E184 (L N:Nat):Env:={P:=Tryz.prog,ty:=tyOf,Φ:=(Φ65 L N),inl:=inlT,live:=lives,liveX:=livesX,L:=L,dp:=none,prom:=promT,heal:=healT,ren:=renT}
theorem f184.b_eq (L N:Nat) (κ:AV->Option R) (a:Int):
  evBody (E184 L N) (evCallI (E184 L N) 0 1000) 1000 184 Tryz.f184 [(.tv i64 a)] [] [] (finC (.one .bool) κ)
  =f184.b L N (fun a0=>κ (.tv .bool a0)) a:=by kernel_rfl
theorem f184.ok (L N:Nat) (hΦ:TellsOk Tryz.prog ((Φ65 L N))):EntOk Tryz.prog 184 (f184.ent L N):=entRo_ok (E:=(E184 L N)) (dep:=1000) (f:=Tryz.f184) (sound_of hΦ) okP (callI_sound (sound_of hΦ) okP 0 1000) rfl rfl fun d _ hy=>(f184.b_eq L N (unR (.one .bool)) d.1).trans (Eq.trans (b:=f184.b L N some d.1) (by kernel_rfl) hy)
def Φ184 (L N:Nat):Tells:=(addT (Φ65 L N) 184 (f184.ent L N))
theorem Φ184_ok (L N:Nat):TellsOk Tryz.prog (Φ184 L N):=addT_ok (Φ65_ok L N) (f184.ok L N (Φ65_ok L N))
def f143.b' (L N:Nat) (k:Int->Option R) (a b:Int):Option R:=
 (f184 L N a).bind fun d=>
 (f184 L N b).bind fun c=>
 bif d then
  bif c then
   k (0:Int)
  else k (-1:Int)
 else bif c then
  k (1:Int)
 else bif (decide (a<b)) then
  k (-1:Int)
 else bif (decide (a>b)) then
  k (1:Int)
 else k (0:Int)
def f143.b (L N:Nat) (k:Int->Option R) (a c:Int):Option R:=
 f143.b' L N k a c
def f143 (L N:Nat) (a c:Int):Option (Int):=f143.b L N some a c
def f143.ent (L N:Nat):=entRo [i64,i64] (.one i64) fun d=>f143 L N d.1 d.2.1
noncomputable def E143 (L N:Nat):Env:={P:=Tryz.prog,ty:=tyOf,Φ:=(Φ184 L N),inl:=inlT,live:=lives,liveX:=livesX,L:=L,dp:=none,prom:=promT,heal:=healT,ren:=renT}
theorem f143.b_eq (L N:Nat) (κ:AV->Option R) (a c:Int):
  evBody (E143 L N) (evCallI (E143 L N) 0 1000) 1000 143 Tryz.f143 [(.tv i64 a),(.tv i64 c)] [] [] (finC (.one i64) κ)
  =f143.b L N (fun a0=>κ (.tv i64 a0)) a c:=by kernel_rfl
theorem f143.ok (L N:Nat) (hΦ:TellsOk Tryz.prog ((Φ184 L N))):EntOk Tryz.prog 143 (f143.ent L N):=entRo_ok (E:=(E143 L N)) (dep:=1000) (f:=Tryz.f143) (sound_of hΦ) okP (callI_sound (sound_of hΦ) okP 0 1000) rfl rfl fun d _ hy=>(f143.b_eq L N (unR (.one i64)) d.1 d.2.1).trans (Eq.trans (b:=f143.b L N some d.1 d.2.1) (by kernel_rfl) hy)
def Φ143 (L N:Nat):Tells:=(addT (Φ184 L N) 143 (f143.ent L N))
theorem Φ143_ok (L N:Nat):TellsOk Tryz.prog (Φ143 L N):=addT_ok (Φ184_ok L N) (f143.ok L N (Φ184_ok L N))
def f109.b' (L N:Nat) (k:Int->Option R) (a b:Move):Option R:=
 (f143 L N a.act b.act).bind fun c=>
 bif (c !=(0:Int)) then
  k c
 else (f143 L N a.to b.to).bind fun d=>
 k d
def f109.b (L N:Nat) (k:Int->Option R) (a c:Move):Option R:=
 f109.b' L N k a c
def f109 (L N:Nat) (a c:Move):Option (Int):=f109.b L N some a c
def f109.ent (L N:Nat):=entRo [(.st 0),(.st 0)] (.one i64) fun d=>f109 L N d.1 d.2.1
noncomputable def E109 (L N:Nat):Env:={P:=Tryz.prog,ty:=tyOf,Φ:=(Φ143 L N),inl:=inlT,live:=lives,liveX:=livesX,L:=L,dp:=none,prom:=promT,heal:=healT,ren:=renT}
theorem f109.b_eq (L N:Nat) (κ:AV->Option R) (a c:Move):
  evBody (E109 L N) (evCallI (E109 L N) 0 1000) 1000 109 Tryz.f109 [(.tv (.st 0) a),(.tv (.st 0) c)] [] [] (finC (.one i64) κ)
  =f109.b L N (fun a0=>κ (.tv i64 a0)) a c:=by kernel_rfl
theorem f109.ok (L N:Nat) (hΦ:TellsOk Tryz.prog ((Φ143 L N))):EntOk Tryz.prog 109 (f109.ent L N):=entRo_ok (E:=(E109 L N)) (dep:=1000) (f:=Tryz.f109) (sound_of hΦ) okP (callI_sound (sound_of hΦ) okP 0 1000) rfl rfl fun d _ hy=>(f109.b_eq L N (unR (.one i64)) d.1 d.2.1).trans (Eq.trans (b:=f109.b L N some d.1 d.2.1) (by kernel_rfl) hy)
def Φ109 (L N:Nat):Tells:=(addT (Φ143 L N) 109 (f109.ent L N))
theorem Φ109_ok (L N:Nat):TellsOk Tryz.prog (Φ109 L N):=addT_ok (Φ143_ok L N) (f109.ok L N (Φ143_ok L N))
def f106.s1' (L N:Nat) (k1_e2:LLM->Int->Int->LLM->Option R) (k1_r:Bool->LLM->Int->Int->LLM->Option R) (rec1:LM->LLM->Int->Int->LM->Int->Int->LLM->Option R) (g:LM) (d:LLM) (e f:Int) (b:LM) (h a:Int) (c:LLM):Option R:=
 bif (decide (a<h)) then
  bif (decide (0≤a)&&decide (a<(b.length:Int))) then
   (f121 L N ((listAt b (Ty.dflt (.st 0)) a.toNat).act)).bind fun i=>
   bif (!i) then
    k1_r false d e f c
   else bif (decide ((listAt b (Ty.dflt (.st 0)) a.toNat).to<(0:Int))) then
    k1_r false d e f c
   else bif (decide ((listAt b (Ty.dflt (.st 0)) a.toNat).to≥(c.length:Int))) then
    k1_r false d e f c
   else bif (decide (a>(0:Int))) then
    bif (decide (0≤(wi (a-(1:Int))))&&decide ((wi (a-(1:Int)))<(g.length:Int))) then
     (f109 L N (listAt g (Ty.dflt (.st 0)) (wi (a-(1:Int))).toNat) (Move.mk ((listAt b (Ty.dflt (.st 0)) a.toNat).act) ((listAt b (Ty.dflt (.st 0)) a.toNat).to))).bind fun j=>
     bif (decide (j≥(0:Int))) then
      k1_r false d e f c
     else rec1 g d e f b h (wi (a+(1:Int))) c
    else none
   else rec1 g d e f b h (wi (a+(1:Int))) c
  else none
 else k1_e2 d e f c
def f106.s1 (L N:Nat) (k1_e2:LLM->Int->Int->LLM->Option R) (k1_r:Bool->LLM->Int->Int->LLM->Option R) (rec1:LM->LLM->Int->Int->LM->Int->Int->LLM->Option R) (a:LM) (b:LLM) (c d:Int) (e:LM) (f g:Int) (h:LLM):Option R:=
 f106.s1' L N k1_e2 k1_r rec1 a b c d e f g h
def f106.l1 (L N:Nat) (k1_e2:LLM->Int->Int->LLM->Option R) (k1_r:Bool->LLM->Int->Int->LLM->Option R):Nat->LM->LLM->Int->Int->LM->Int->Int->LLM->Option R
 |0,_,_,_,_,_,_,_,_=>none
 |n+1,a,b,c,d,e,f,g,h=>f106.s1 L N k1_e2 k1_r (f106.l1 L N k1_e2 k1_r n) a b c d e f g h
def f106.T1 (a:LM) (b:LLM) (c d:Int) (e:LM) (f g:Int) (h:LLM):T:=mkT 64 [(1,(.ptr 1001 0)),(4,(.tv (.sl (.st 0)) a)),(18,(.tv (.sl (.sl (.st 0))) b)),(19,(.tv i64 c)),(20,(.tv i64 d)),(24,(.tv (.sl (.st 0)) e)),(25,(.tv i64 f)),(26,(.tv i64 g))]
def f106.H1 (b:LM) (c:LLM) (d e:Int) (f:LM) (g h:Int) (a:LLM):H:=[(1001,(.box [(.tv (.sl (.sl (.st 0))) a)]))]
def f106.T1_e2 (a:LLM) (b c:Int) (d:LLM):T:=mkT 64 [(1,(.ptr 1001 0)),(18,(.tv (.sl (.sl (.st 0))) a)),(19,(.tv i64 b)),(20,(.tv i64 c))]
def f106.H1_e2 (b:LLM) (c d:Int) (a:LLM):H:=[(1001,(.box [(.tv (.sl (.sl (.st 0))) a)]))]
def f106.T1_r (a:Bool) (b:LLM) (c d:Int) (e:LLM):T:=mkT 64 [(1,(.ptr 1001 0)),(2,(.tv .bool a)),(18,(.tv (.sl (.sl (.st 0))) b)),(19,(.tv i64 c)),(20,(.tv i64 d))]
def f106.H1_r (b:Bool) (c:LLM) (d e:Int) (a:LLM):H:=[(1001,(.box [(.tv (.sl (.sl (.st 0))) a)]))]
def f106.p1_e2' (L N:Nat) (k0_e0:Option R) (k0_r:Bool->Option R) (rec0:LLM->Int->Int->LLM->Option R) (a:LLM) (b c:Int) (d:LLM):Option R:=
 rec0 a b (wi (c+(1:Int))) d
def f106.p1_e2 (L N:Nat) (k0_e0:Option R) (k0_r:Bool->Option R) (rec0:LLM->Int->Int->LLM->Option R) (a:LLM) (b c:Int) (d:LLM):Option R:=
 f106.p1_e2' L N k0_e0 k0_r rec0 a b c d
def f106.p1_r' (L N:Nat) (k0_e0:Option R) (k0_r:Bool->Option R) (rec0:LLM->Int->Int->LLM->Option R) (a:Bool) (b:LLM) (c d:Int) (e:LLM):Option R:=
 k0_r a
def f106.p1_r (L N:Nat) (k0_e0:Option R) (k0_r:Bool->Option R) (rec0:LLM->Int->Int->LLM->Option R) (a:Bool) (b:LLM) (c d:Int) (e:LLM):Option R:=
 f106.p1_r' L N k0_e0 k0_r rec0 a b c d e
def f106.s0' (L N:Nat) (k0_e0:Option R) (k0_r:Bool->Option R) (rec0:LLM->Int->Int->LLM->Option R) (d:LM->LLM->Int->Int->LM->Int->Int->LLM->Option R) (b:LLM) (c a:Int) (e:LLM):Option R:=
 bif (decide (a<c)) then
  bif (decide (0≤a)&&decide (a<(b.length:Int))) then
   d (listAt b [] a.toNat) b c a (listAt b [] a.toNat) ((listAt b [] a.toNat).length:Int) (0:Int) e
  else none
 else k0_e0
def f106.s0 (L N:Nat) (k0_e0:Option R) (k0_r:Bool->Option R) (rec0:LLM->Int->Int->LLM->Option R) (a:LLM) (b c:Int) (d:LLM):Option R:=
 f106.s0' L N k0_e0 k0_r rec0 (fun e f g h i j k l=>f106.l1 L N (fun m n o p=>f106.p1_e2 L N k0_e0 k0_r rec0 m n o p) (fun q r s t u=>f106.p1_r L N k0_e0 k0_r rec0 q r s t u) L e f g h i j k l) a b c d
def f106.l0 (L N:Nat) (k0_e0:Option R) (k0_r:Bool->Option R):Nat->LLM->Int->Int->LLM->Option R
 |0,_,_,_,_=>none
 |n+1,a,b,c,d=>f106.s0 L N k0_e0 k0_r (f106.l0 L N k0_e0 k0_r n) a b c d
def f106.T0 (a:LLM) (b c:Int) (d:LLM):T:=mkT 64 [(1,(.ptr 1001 0)),(18,(.tv (.sl (.sl (.st 0))) a)),(19,(.tv i64 b)),(20,(.tv i64 c))]
def f106.H0 (b:LLM) (c d:Int) (a:LLM):H:=[(1001,(.box [(.tv (.sl (.sl (.st 0))) a)]))]
def f106.T0_e0:T:=mkT 64 []
def f106.H0_e0:H:=[]
def f106.T0_r (a:Bool):T:=mkT 64 [(2,(.tv .bool a))]
def f106.H0_r (a:Bool):H:=[]
def f106.p0_e0' (L N:Nat) (k:Bool->Option R):Option R:=
 k true
def f106.p0_e0 (L N:Nat) (k:Bool->Option R):Option R:=
 f106.p0_e0' L N k
def f106.p0_r' (L N:Nat) (k:Bool->Option R) (a:Bool):Option R:=
 k a
def f106.p0_r (L N:Nat) (k:Bool->Option R) (a:Bool):Option R:=
 f106.p0_r' L N k a
def f106.j0' (L N:Nat) (k:Bool->Option R) (b:LLM->Int->Int->LLM->Option R) (a:LLM):Option R:=
 b a (a.length:Int) (0:Int) a
def f106.b' (L N:Nat) (k:Bool->Option R) (b:LLM->Int->Int->LLM->Option R) (a:Graph):Option R:=
 bif (decide ((a.moves.length:Int)<(1:Int))) then
  k false
 else bif (decide ((a.moves.length:Int)>(60:Int))) then
  k false
 else f106.j0' L N k b a.moves
def f106.b (L N:Nat) (k:Bool->Option R) (a:Graph):Option R:=
 f106.b' L N k (fun c d e f=>f106.l0 L N (f106.p0_e0 L N k) (fun g=>f106.p0_r L N k g) L c d e f) a
def f106 (L N:Nat) (a:Graph):Option (Bool):=f106.b L N some a
def f106.ent (L N:Nat):=entRo [(.st 2)] (.one .bool) fun d=>f106 L N d.1
noncomputable def E106 (L N:Nat):Env:={P:=Tryz.prog,ty:=tyOf,Φ:=(Φ109 L N),inl:=inlT,live:=lives,liveX:=livesX,L:=L,dp:=none,prom:=promT,heal:=healT,ren:=renT}
noncomputable def f106.c0:Code:=loopAt 0 (codeOf Tryz.f106)
noncomputable def f106.c1:Code:=loopAt 2 f106.c0
def f106.X1_e2 (κ:KX R):=fun a b c d=>κ (.exit 2) (f106.T1_e2 a b c d) (f106.H1_e2 a b c d)
def f106.X1_r (κ:KX R):=fun a b c d e=>κ .ret (f106.T1_r a b c d e) (f106.H1_r a b c d e)
def f106.R1 (rec:KT R):=fun a b c d e f g h=>rec (f106.T1 a b c d e f g h) (f106.H1 a b c d e f g h)
theorem f106.s1_eq (L N:Nat) (κ:KX R) (rec:KT R) (a:LM) (b:LLM) (c d:Int) (e:LM) (f g:Int) (h:LLM):
  evRd (E106 L N) (evCallI (E106 L N) 0 1000) 1000 106 64 2 f106.c1 κ rec (f106.T1 a b c d e f g h) (f106.H1 a b c d e f g h)
  =f106.s1 L N (f106.X1_e2 κ) (f106.X1_r κ) (f106.R1 rec) a b c d e f g h:=by kernel_rfl
theorem f106.l1_eq (L N:Nat) (κ:KX R):∀(n:Nat) (a:LM) (b:LLM) (c d:Int) (e:LM) (f g:Int) (h:LLM),
  evLp (E106 L N) (evCallI (E106 L N) 0 1000) 1000 106 64 2 f106.c1 κ n (f106.T1 a b c d e f g h) (f106.H1 a b c d e f g h)
  =f106.l1 L N (f106.X1_e2 κ) (f106.X1_r κ) n a b c d e f g h:=by
 intro n
 induction n with
 |zero=>intros;rfl
 |succ n ih=>
  intro a b c d e f g h
  rw [evLp_succ,f106.s1_eq]
  delta f106.R1
  simp only [ih]
  rfl
def f106.X0_e0 (κ:KX R):=κ (.exit 0) f106.T0_e0 f106.H0_e0
def f106.X0_r (κ:KX R):=fun a=>κ .ret (f106.T0_r a) (f106.H0_r a)
def f106.R0 (rec:KT R):=fun a b c d=>rec (f106.T0 a b c d) (f106.H0 a b c d)
theorem f106.p1_e2_eq (L N:Nat) (κ:KX R) (rec:KT R) (a:LLM) (b c:Int) (d:LLM):
  (contAt (E106 L N) (evCallI (E106 L N) 0 1000) 1000 106 64 2 f106.c0 (rdK (E106 L N) 1000 106 64 0 κ rec)) (.exit 2) (f106.T1_e2 a b c d) (f106.H1_e2 a b c d)
  =f106.p1_e2 L N (f106.X0_e0 κ) (f106.X0_r κ) (f106.R0 rec) a b c d:=by kernel_rfl
theorem f106.p1_r_eq (L N:Nat) (κ:KX R) (rec:KT R) (a:Bool) (b:LLM) (c d:Int) (e:LLM):
  (contAt (E106 L N) (evCallI (E106 L N) 0 1000) 1000 106 64 2 f106.c0 (rdK (E106 L N) 1000 106 64 0 κ rec)) .ret (f106.T1_r a b c d e) (f106.H1_r a b c d e)
  =f106.p1_r L N (f106.X0_e0 κ) (f106.X0_r κ) (f106.R0 rec) a b c d e:=by kernel_rfl
theorem f106.s0_eq (L N:Nat) (κ:KX R) (rec:KT R) (a:LLM) (c d:Int) (e:LLM):
  evRd (E106 L N) (evCallI (E106 L N) 0 1000) 1000 106 64 0 f106.c0 κ rec (f106.T0 a c d e) (f106.H0 a c d e)
  =f106.s0 L N (f106.X0_e0 κ) (f106.X0_r κ) (f106.R0 rec) a c d e:=by
 refine Eq.trans (b:=f106.s0' L N (f106.X0_e0 κ) (f106.X0_r κ) (f106.R0 rec) (fun f g h i j k l m=>evLp (E106 L N) (evCallI (E106 L N) 0 1000) 1000 106 64 2 f106.c1 (contAt (E106 L N) (evCallI (E106 L N) 0 1000) 1000 106 64 2 f106.c0 (rdK (E106 L N) 1000 106 64 0 κ rec)) L (f106.T1 f g h i j k l m) (f106.H1 f g h i j k l m)) a c d e) (by kernel_rfl) ?_
 unfold f106.s0
 simp only [f106.l1_eq]
 delta f106.X1_e2 f106.X1_r
 simp only [f106.p1_e2_eq,f106.p1_r_eq]
theorem f106.l0_eq (L N:Nat) (κ:KX R):∀(n:Nat) (a:LLM) (b c:Int) (d:LLM),
  evLp (E106 L N) (evCallI (E106 L N) 0 1000) 1000 106 64 0 f106.c0 κ n (f106.T0 a b c d) (f106.H0 a b c d)
  =f106.l0 L N (f106.X0_e0 κ) (f106.X0_r κ) n a b c d:=by
 intro n
 induction n with
 |zero=>intros;rfl
 |succ n ih=>
  intro a b c d
  rw [evLp_succ,f106.s0_eq]
  delta f106.R0
  simp only [ih]
  rfl
theorem f106.p0_e0_eq (L N:Nat) (κ:AV->Option R):
  (contAt (E106 L N) (evCallI (E106 L N) 0 1000) 1000 106 64 0 (codeOf Tryz.f106) (finK (E106 L N) 1000 Tryz.f106 (finC (.one .bool) κ))) (.exit 0) f106.T0_e0 f106.H0_e0
  =f106.p0_e0 L N (fun a0=>κ (.tv .bool a0)):=by kernel_rfl
theorem f106.p0_r_eq (L N:Nat) (κ:AV->Option R) (a:Bool):
  (contAt (E106 L N) (evCallI (E106 L N) 0 1000) 1000 106 64 0 (codeOf Tryz.f106) (finK (E106 L N) 1000 Tryz.f106 (finC (.one .bool) κ))) .ret (f106.T0_r a) (f106.H0_r a)
  =f106.p0_r L N (fun a0=>κ (.tv .bool a0)) a:=by kernel_rfl
theorem f106.b_eq (L N:Nat) (κ:AV->Option R) (a:Graph):
  evBody (E106 L N) (evCallI (E106 L N) 0 1000) 1000 106 Tryz.f106 [(.tv (.st 2) a)] [] [] (finC (.one .bool) κ)
  =f106.b L N (fun a0=>κ (.tv .bool a0)) a:=by
 refine Eq.trans (b:=f106.b' L N (fun a0=>κ (.tv .bool a0)) (fun c d e f=>evLp (E106 L N) (evCallI (E106 L N) 0 1000) 1000 106 64 0 f106.c0 (contAt (E106 L N) (evCallI (E106 L N) 0 1000) 1000 106 64 0 (codeOf Tryz.f106) (finK (E106 L N) 1000 Tryz.f106 (finC (.one .bool) κ))) L (f106.T0 c d e f) (f106.H0 c d e f)) a) (by kernel_rfl) ?_
 unfold f106.b
 simp only [f106.l0_eq]
 delta f106.X0_e0 f106.X0_r
 simp only [f106.p0_e0_eq,f106.p0_r_eq]
theorem f106.ok (L N:Nat) (hΦ:TellsOk Tryz.prog ((Φ109 L N))):EntOk Tryz.prog 106 (f106.ent L N):=entRo_ok (E:=(E106 L N)) (dep:=1000) (f:=Tryz.f106) (sound_of hΦ) okP (callI_sound (sound_of hΦ) okP 0 1000) rfl rfl fun d _ hy=>(f106.b_eq L N (unR (.one .bool)) d.1).trans (Eq.trans (b:=f106.b L N some d.1) (by kernel_rfl) hy)
def Φ106 (L N:Nat):Tells:=(addT (Φ109 L N) 106 (f106.ent L N))
theorem Φ106_ok (L N:Nat):TellsOk Tryz.prog (Φ106 L N):=addT_ok (Φ109_ok L N) (f106.ok L N (Φ109_ok L N))
def f107.s0' (L N:Nat) (k0_e0:LM->Option R) (rec0:Int->LM->Int->Int->LM->Option R) (c:Int) (b:LM) (e a:Int) (d:LM):Option R:=
 bif (decide (a<e)) then
  bif (decide (0≤a)&&decide (a<(b.length:Int))) then
   bif (decide (d.length+([(Move.mk ((listAt b (Ty.dflt (.st 0)) a.toNat).act) (wi ((listAt b (Ty.dflt (.st 0)) a.toNat).to+c)))]:LM).length≤lim)) then
    rec0 c b e (wi (a+(1:Int))) (d++([(Move.mk ((listAt b (Ty.dflt (.st 0)) a.toNat).act) (wi ((listAt b (Ty.dflt (.st 0)) a.toNat).to+c)))]:LM))
   else none
  else none
 else k0_e0 d
def f107.s0 (L N:Nat) (k0_e0:LM->Option R) (rec0:Int->LM->Int->Int->LM->Option R) (a:Int) (b:LM) (c d:Int) (e:LM):Option R:=
 f107.s0' L N k0_e0 rec0 a b c d e
def f107.l0 (L N:Nat) (k0_e0:LM->Option R):Nat->Int->LM->Int->Int->LM->Option R
 |0,_,_,_,_,_=>none
 |n+1,a,b,c,d,e=>f107.s0 L N k0_e0 (f107.l0 L N k0_e0 n) a b c d e
def f107.T0 (a:Int) (b:LM) (c d:Int) (e:LM):T:=mkT 27 [(1,(.tv i64 a)),(5,(.row 1008)),(9,(.tv (.sl (.st 0)) b)),(10,(.tv i64 c)),(11,(.tv i64 d))]
def f107.H0 (b:Int) (c:LM) (d e:Int) (a:LM):H:=[(1008,(.row 63 (.st 0) a))]
def f107.T0_e0 (a:LM):T:=mkT 27 [(5,(.row 1008))]
def f107.H0_e0 (a:LM):H:=[(1008,(.row 63 (.st 0) a))]
def f107.p0_e0' (L N:Nat) (k:LM->Option R) (a:LM):Option R:=
 k a
def f107.p0_e0 (L N:Nat) (k:LM->Option R) (a:LM):Option R:=
 f107.p0_e0' L N k a
def f107.b' (L N:Nat) (k:LM->Option R) (b:Int->LM->Int->Int->LM->Option R) (a:LM) (c:Int):Option R:=
 b c a (a.length:Int) (0:Int) ([]:LM)
def f107.b (L N:Nat) (k:LM->Option R) (a:LM) (c:Int):Option R:=
 f107.b' L N k (fun d e f g h=>f107.l0 L N (fun i=>f107.p0_e0 L N k i) L d e f g h) a c
def f107 (L N:Nat) (a:LM) (c:Int):Option (LM):=f107.b L N some a c
def f107.ent (L N:Nat):=entDa [(.sl (.st 0)),i64] (.one (.sl (.st 0))) fun d=>f107 L N d.1 d.2.1
noncomputable def E107 (L N:Nat):Env:={P:=Tryz.prog,ty:=tyOf,Φ:=(Φ106 L N),inl:=inlT,live:=lives,liveX:=livesX,L:=L,dp:=none,prom:=promT,heal:=healT,ren:=renT}
noncomputable def f107.c0:Code:=loopAt 0 (codeOf Tryz.f107)
def f107.X0_e0 (κ:KX R):=fun a=>κ (.exit 0) (f107.T0_e0 a) (f107.H0_e0 a)
def f107.R0 (rec:KT R):=fun a b c d e=>rec (f107.T0 a b c d e) (f107.H0 a b c d e)
theorem f107.s0_eq (L N:Nat) (κ:KX R) (rec:KT R) (a:Int) (b:LM) (c d:Int) (e:LM):
  evRd (E107 L N) (evCallI (E107 L N) 0 1000) 1000 107 27 0 f107.c0 κ rec (f107.T0 a b c d e) (f107.H0 a b c d e)
  =f107.s0 L N (f107.X0_e0 κ) (f107.R0 rec) a b c d e:=by kernel_rfl
theorem f107.l0_eq (L N:Nat) (κ:KX R):∀(n:Nat) (a:Int) (b:LM) (c d:Int) (e:LM),
  evLp (E107 L N) (evCallI (E107 L N) 0 1000) 1000 107 27 0 f107.c0 κ n (f107.T0 a b c d e) (f107.H0 a b c d e)
  =f107.l0 L N (f107.X0_e0 κ) n a b c d e:=by
 intro n
 induction n with
 |zero=>intros;rfl
 |succ n ih=>
  intro a b c d e
  rw [evLp_succ,f107.s0_eq]
  delta f107.R0
  simp only [ih]
  rfl
theorem f107.p0_e0_eq (L N:Nat) (κ:AV->Option R) (a:LM):
  (contAt (E107 L N) (evCallI (E107 L N) 0 1000) 1000 107 27 0 (codeOf Tryz.f107) (finK (E107 L N) 1000 Tryz.f107 (finC (.one (.sl (.st 0))) κ))) (.exit 0) (f107.T0_e0 a) (f107.H0_e0 a)
  =f107.p0_e0 L N (fun a0=>κ (.tv (.sl (.st 0)) a0)) a:=by kernel_rfl
theorem f107.b_eq (L N:Nat) (κ:AV->Option R) (a:LM) (c:Int):
  evBody (E107 L N) (evCallI (E107 L N) 0 1000) 1000 107 Tryz.f107 [(.tv (.sl (.st 0)) a),(.tv i64 c)] [] [] (finC (.one (.sl (.st 0))) κ)
  =f107.b L N (fun a0=>κ (.tv (.sl (.st 0)) a0)) a c:=by
 refine Eq.trans (b:=f107.b' L N (fun a0=>κ (.tv (.sl (.st 0)) a0)) (fun d e f g h=>evLp (E107 L N) (evCallI (E107 L N) 0 1000) 1000 107 27 0 f107.c0 (contAt (E107 L N) (evCallI (E107 L N) 0 1000) 1000 107 27 0 (codeOf Tryz.f107) (finK (E107 L N) 1000 Tryz.f107 (finC (.one (.sl (.st 0))) κ))) L (f107.T0 d e f g h) (f107.H0 d e f g h)) a c) (by kernel_rfl) ?_
 unfold f107.b
 simp only [f107.l0_eq]
 delta f107.X0_e0
 simp only [f107.p0_e0_eq]
theorem f107.ok (L N:Nat) (hΦ:TellsOk Tryz.prog ((Φ106 L N))):EntOk Tryz.prog 107 (f107.ent L N):=entDa_ok (E:=(E107 L N)) (dep:=1000) (f:=Tryz.f107) (sound_of hΦ) okP (callI_sound (sound_of hΦ) okP 0 1000) rfl fun d _ hy=>(f107.b_eq L N (unR (.one (.sl (.st 0)))) d.1 d.2.1).trans (Eq.trans (b:=f107.b L N some d.1 d.2.1) (by kernel_rfl) hy)
def Φ107 (L N:Nat):Tells:=(addT (Φ106 L N) 107 (f107.ent L N))
theorem Φ107_ok (L N:Nat):TellsOk Tryz.prog (Φ107 L N):=addT_ok (Φ106_ok L N) (f107.ok L N (Φ106_ok L N))
def f66.s0' (L N:Nat) (k0_e0:LLM->LLM->LLM->Option R) (rec0:LLM->Int->Int->LLM->LLM->LLM->Option R) (b:LLM) (d a:Int) (e f c:LLM):Option R:=
 bif (decide (a<d)) then
  bif (decide (0≤a)&&decide (a<(b.length:Int))) then
   (f107 L N (listAt b [] a.toNat) (0:Int)).bind fun g=>
   bif (decide (c.length+([g]:LLM).length≤lim)) then
    rec0 b d (wi (a+(1:Int))) e f (c++([g]:LLM))
   else none
  else none
 else k0_e0 e f c
def f66.s0 (L N:Nat) (k0_e0:LLM->LLM->LLM->Option R) (rec0:LLM->Int->Int->LLM->LLM->LLM->Option R) (a:LLM) (b c:Int) (d e f:LLM):Option R:=
 f66.s0' L N k0_e0 rec0 a b c d e f
def f66.l0 (L N:Nat) (k0_e0:LLM->LLM->LLM->Option R):Nat->LLM->Int->Int->LLM->LLM->LLM->Option R
 |0,_,_,_,_,_,_=>none
 |n+1,a,b,c,d,e,f=>f66.s0 L N k0_e0 (f66.l0 L N k0_e0 n) a b c d e f
def f66.T0 (a:LLM) (b c:Int) (d e f:LLM):T:=mkT 65 [(2,(.ptr 1002 0)),(3,(.ptr 1003 0)),(4,(.ptr 1004 0)),(6,(.ptr 1006 0)),(32,(.tv (.sl (.sl (.st 0))) a)),(33,(.tv i64 b)),(34,(.tv i64 c))]
def f66.H0 (d:LLM) (e f:Int) (a b c:LLM):H:=[(1002,(.box [(.tv (.sl (.sl (.st 0))) a)])),(1003,(.box [(.tv (.sl (.sl (.st 0))) b)])),(1004,(.box [.nil])),(1006,(.box [(.row 1900)])),(1900,(.row 61 (.sl (.st 0)) c))]
def f66.T0_e0 (a b c:LLM):T:=mkT 65 [(2,(.ptr 1002 0)),(3,(.ptr 1003 0)),(4,(.ptr 1004 0)),(6,(.ptr 1006 0))]
def f66.H0_e0 (a b c:LLM):H:=[(1002,(.box [(.tv (.sl (.sl (.st 0))) a)])),(1003,(.box [(.tv (.sl (.sl (.st 0))) b)])),(1004,(.box [.nil])),(1006,(.box [(.row 1900)])),(1900,(.row 61 (.sl (.st 0)) c))]
def f66.s1' (L N:Nat) (k1_e2:LLM->Option R) (rec1:LLM->Int->Int->LLM->LLM->Option R) (b:LLM) (d a:Int) (e c:LLM):Option R:=
 bif (decide (a<d)) then
  bif (decide (0≤a)&&decide (a<(b.length:Int))) then
   (f107 L N (listAt b [] a.toNat) (e.length:Int)).bind fun f=>
   bif (decide (c.length+([f]:LLM).length≤lim)) then
    rec1 b d (wi (a+(1:Int))) e (c++([f]:LLM))
   else none
  else none
 else k1_e2 c
def f66.s1 (L N:Nat) (k1_e2:LLM->Option R) (rec1:LLM->Int->Int->LLM->LLM->Option R) (a:LLM) (b c:Int) (d e:LLM):Option R:=
 f66.s1' L N k1_e2 rec1 a b c d e
def f66.l1 (L N:Nat) (k1_e2:LLM->Option R):Nat->LLM->Int->Int->LLM->LLM->Option R
 |0,_,_,_,_,_=>none
 |n+1,a,b,c,d,e=>f66.s1 L N k1_e2 (f66.l1 L N k1_e2 n) a b c d e
def f66.T1 (a:LLM) (b c:Int) (d e:LLM):T:=mkT 65 [(2,(.ptr 1002 0)),(4,(.ptr 1004 0)),(6,(.ptr 1006 0)),(47,(.tv (.sl (.sl (.st 0))) a)),(48,(.tv i64 b)),(49,(.tv i64 c))]
def f66.H1 (c:LLM) (d e:Int) (a b:LLM):H:=[(1002,(.box [(.tv (.sl (.sl (.st 0))) a)])),(1004,(.box [.nil])),(1006,(.box [(.row 1900)])),(1900,(.row 61 (.sl (.st 0)) b))]
def f66.T1_e2 (a:LLM):T:=mkT 65 [(4,(.ptr 1004 0)),(6,(.ptr 1006 0))]
def f66.H1_e2 (a:LLM):H:=[(1004,(.box [.nil])),(1006,(.box [(.row 1900)])),(1900,(.row 61 (.sl (.st 0)) a))]
def f66.p1_e2' (L N:Nat) (k:Graph->Bool->Option R) (a:LLM):Option R:=
 k (Graph.mk a) true
def f66.p1_e2 (L N:Nat) (k:Graph->Bool->Option R) (a:LLM):Option R:=
 f66.p1_e2' L N k a
def f66.p0_e0' (L N:Nat) (k:Graph->Bool->Option R) (b:LLM->Int->Int->LLM->LLM->Option R) (c a d:LLM):Option R:=
 b a (a.length:Int) (0:Int) c d
def f66.p0_e0 (L N:Nat) (k:Graph->Bool->Option R) (a b c:LLM):Option R:=
 f66.p0_e0' L N k (fun d e f g h=>f66.l1 L N (fun i=>f66.p1_e2 L N k i) L d e f g h) a b c
def f66.j0' (L N:Nat) (k:Graph->Bool->Option R) (b:LLM->Int->Int->LLM->LLM->LLM->Option R) (a c:LLM):Option R:=
 b a (a.length:Int) (0:Int) a c ([]:LLM)
def f66.b' (L N:Nat) (k:Graph->Bool->Option R) (c:LLM->Int->Int->LLM->LLM->LLM->Option R) (a b:Graph):Option R:=
 (f106 L N (Graph.mk a.moves)).bind fun d=>
 bif (!d) then
  k (Graph.mk []) false
 else (f106 L N (Graph.mk b.moves)).bind fun e=>
 bif (!e) then
  k (Graph.mk []) false
 else bif (decide ((wi ((a.moves.length:Int)+(b.moves.length:Int)))>(60:Int))) then
  k (Graph.mk []) false
 else f66.j0' L N k c a.moves b.moves
def f66.b (L N:Nat) (k:Graph->Bool->Option R) (a c:Graph):Option R:=
 f66.b' L N k (fun d e f g h i=>f66.l0 L N (fun j l m=>f66.p0_e0 L N k j l m) L d e f g h i) a c
def f66 (L N:Nat) (a c:Graph):Option (Graph×Bool):=f66.b L N (fun a0 a1=>some (a0,a1)) a c
def f66.ent (L N:Nat):=entDa [(.st 2),(.st 2)] (.many [(.st 2),.bool]) fun d=>f66 L N d.1 d.2.1
noncomputable def E66 (L N:Nat):Env:={P:=Tryz.prog,ty:=tyOf,Φ:=(Φ107 L N),inl:=inlT,live:=lives,liveX:=livesX,L:=L,dp:=none,prom:=promT,heal:=healT,ren:=renT}
noncomputable def f66.c0:Code:=loopAt 0 (codeOf Tryz.f66)
def f66.X0_e0 (κ:KX R):=fun a b c=>κ (.exit 0) (f66.T0_e0 a b c) (f66.H0_e0 a b c)
def f66.R0 (rec:KT R):=fun a b c d e f=>rec (f66.T0 a b c d e f) (f66.H0 a b c d e f)
theorem f66.s0_eq (L N:Nat) (κ:KX R) (rec:KT R) (a:LLM) (b c:Int) (d e f:LLM):
  evRd (E66 L N) (evCallI (E66 L N) 0 1000) 1000 66 65 0 f66.c0 κ rec (f66.T0 a b c d e f) (f66.H0 a b c d e f)
  =f66.s0 L N (f66.X0_e0 κ) (f66.R0 rec) a b c d e f:=by kernel_rfl
theorem f66.l0_eq (L N:Nat) (κ:KX R):∀(n:Nat) (a:LLM) (b c:Int) (d e f:LLM),
  evLp (E66 L N) (evCallI (E66 L N) 0 1000) 1000 66 65 0 f66.c0 κ n (f66.T0 a b c d e f) (f66.H0 a b c d e f)
  =f66.l0 L N (f66.X0_e0 κ) n a b c d e f:=by
 intro n
 induction n with
 |zero=>intros;rfl
 |succ n ih=>
  intro a b c d e f
  rw [evLp_succ,f66.s0_eq]
  delta f66.R0
  simp only [ih]
  rfl
noncomputable def f66.c1:Code:=loopAt 2 (codeOf Tryz.f66)
def f66.X1_e2 (κ:KX R):=fun a=>κ (.exit 2) (f66.T1_e2 a) (f66.H1_e2 a)
def f66.R1 (rec:KT R):=fun a b c d e=>rec (f66.T1 a b c d e) (f66.H1 a b c d e)
theorem f66.s1_eq (L N:Nat) (κ:KX R) (rec:KT R) (a:LLM) (b c:Int) (d e:LLM):
  evRd (E66 L N) (evCallI (E66 L N) 0 1000) 1000 66 65 2 f66.c1 κ rec (f66.T1 a b c d e) (f66.H1 a b c d e)
  =f66.s1 L N (f66.X1_e2 κ) (f66.R1 rec) a b c d e:=by kernel_rfl
theorem f66.l1_eq (L N:Nat) (κ:KX R):∀(n:Nat) (a:LLM) (b c:Int) (d e:LLM),
  evLp (E66 L N) (evCallI (E66 L N) 0 1000) 1000 66 65 2 f66.c1 κ n (f66.T1 a b c d e) (f66.H1 a b c d e)
  =f66.l1 L N (f66.X1_e2 κ) n a b c d e:=by
 intro n
 induction n with
 |zero=>intros;rfl
 |succ n ih=>
  intro a b c d e
  rw [evLp_succ,f66.s1_eq]
  delta f66.R1
  simp only [ih]
  rfl
theorem f66.p1_e2_eq (L N:Nat) (κ:AV->Option R) (a:LLM):
  (contAt (E66 L N) (evCallI (E66 L N) 0 1000) 1000 66 65 2 (codeOf Tryz.f66) (finK (E66 L N) 1000 Tryz.f66 (finC (.many [(.st 2),.bool]) κ))) (.exit 2) (f66.T1_e2 a) (f66.H1_e2 a)
  =f66.p1_e2 L N (fun a0 a1=>κ (.tup [(.tv (.st 2) a0),(.tv .bool a1)])) a:=by kernel_rfl
theorem f66.p0_e0_eq (L N:Nat) (κ:AV->Option R) (a c d:LLM):
  (contAt (E66 L N) (evCallI (E66 L N) 0 1000) 1000 66 65 0 (codeOf Tryz.f66) (finK (E66 L N) 1000 Tryz.f66 (finC (.many [(.st 2),.bool]) κ))) (.exit 0) (f66.T0_e0 a c d) (f66.H0_e0 a c d)
  =f66.p0_e0 L N (fun a0 a1=>κ (.tup [(.tv (.st 2) a0),(.tv .bool a1)])) a c d:=by
 refine Eq.trans (b:=f66.p0_e0' L N (fun a0 a1=>κ (.tup [(.tv (.st 2) a0),(.tv .bool a1)])) (fun e f g h i=>evLp (E66 L N) (evCallI (E66 L N) 0 1000) 1000 66 65 2 f66.c1 (contAt (E66 L N) (evCallI (E66 L N) 0 1000) 1000 66 65 2 (codeOf Tryz.f66) (finK (E66 L N) 1000 Tryz.f66 (finC (.many [(.st 2),.bool]) κ))) L (f66.T1 e f g h i) (f66.H1 e f g h i)) a c d) (by kernel_rfl) ?_
 unfold f66.p0_e0
 simp only [f66.l1_eq]
 delta f66.X1_e2
 simp only [f66.p1_e2_eq]
theorem f66.b_eq (L N:Nat) (κ:AV->Option R) (a c:Graph):
  evBody (E66 L N) (evCallI (E66 L N) 0 1000) 1000 66 Tryz.f66 [(.tv (.st 2) a),(.tv (.st 2) c)] [] [] (finC (.many [(.st 2),.bool]) κ)
  =f66.b L N (fun a0 a1=>κ (.tup [(.tv (.st 2) a0),(.tv .bool a1)])) a c:=by
 refine Eq.trans (b:=f66.b' L N (fun a0 a1=>κ (.tup [(.tv (.st 2) a0),(.tv .bool a1)])) (fun d e f g h i=>evLp (E66 L N) (evCallI (E66 L N) 0 1000) 1000 66 65 0 f66.c0 (contAt (E66 L N) (evCallI (E66 L N) 0 1000) 1000 66 65 0 (codeOf Tryz.f66) (finK (E66 L N) 1000 Tryz.f66 (finC (.many [(.st 2),.bool]) κ))) L (f66.T0 d e f g h i) (f66.H0 d e f g h i)) a c) (by kernel_rfl) ?_
 unfold f66.b
 simp only [f66.l0_eq]
 delta f66.X0_e0
 simp only [f66.p0_e0_eq]
theorem f66.ok (L N:Nat) (hΦ:TellsOk Tryz.prog ((Φ107 L N))):EntOk Tryz.prog 66 (f66.ent L N):=entDa_ok (E:=(E66 L N)) (dep:=1000) (f:=Tryz.f66) (sound_of hΦ) okP (callI_sound (sound_of hΦ) okP 0 1000) rfl fun d _ hy=>(f66.b_eq L N (unR (.many [(.st 2),.bool])) d.1 d.2.1).trans (Eq.trans (b:=f66.b L N (fun a0 a1=>some (a0,a1)) d.1 d.2.1) (by kernel_rfl) hy)
def Φ66 (L N:Nat):Tells:=(addT (Φ107 L N) 66 (f66.ent L N))
theorem Φ66_ok (L N:Nat):TellsOk Tryz.prog (Φ66 L N):=addT_ok (Φ107_ok L N) (f66.ok L N (Φ107_ok L N))
def f35.b' (L N:Nat) (k:Graph->Int->Bool->Option R) (a b:Tree) (d:LT):Option R:=
 (f65 L N (Tree.mk a.op a.n a.parts) d).bind fun c=>
 (f65 L N (Tree.mk b.op b.n b.parts) d).bind fun e=>
 bif (!c.2) then
  k (Graph.mk []) (0:Int) false
 else bif (!e.2) then
  k (Graph.mk []) (0:Int) false
 else (f66 L N (Graph.mk c.1.moves) (Graph.mk e.1.moves)).bind fun f=>
 k (Graph.mk ((Graph.mk f.1.moves).moves)) (c.1.moves.length:Int) f.2
def f35.b (L N:Nat) (k:Graph->Int->Bool->Option R) (a c:Tree) (d:LT):Option R:=
 f35.b' L N k a c d
def f35 (L N:Nat) (a c:Tree) (d:LT):Option (Graph×Int×Bool):=f35.b L N (fun a0 a1 a2=>some (a0,a1,a2)) a c d
def f35.ent (L N:Nat):=entDa [(.st 1),(.st 1),(.sl (.st 1))] (.many [(.st 2),i64,.bool]) fun d=>f35 L N d.1 d.2.1 d.2.2.1
noncomputable def E35 (L N:Nat):Env:={P:=Tryz.prog,ty:=tyOf,Φ:=(Φ66 L N),inl:=inlT,live:=lives,liveX:=livesX,L:=L,dp:=none,prom:=promT,heal:=healT,ren:=renT}
theorem f35.b_eq (L N:Nat) (κ:AV->Option R) (a c:Tree) (d:LT):
  evBody (E35 L N) (evCallI (E35 L N) 0 1000) 1000 35 Tryz.f35 [(.tv (.st 1) a),(.tv (.st 1) c),(.tv (.sl (.st 1)) d)] [] [] (finC (.many [(.st 2),i64,.bool]) κ)
  =f35.b L N (fun a0 a1 a2=>κ (.tup [(.tv (.st 2) a0),(.tv i64 a1),(.tv .bool a2)])) a c d:=by kernel_rfl
theorem f35.ok (L N:Nat) (hΦ:TellsOk Tryz.prog ((Φ66 L N))):EntOk Tryz.prog 35 (f35.ent L N):=entDa_ok (E:=(E35 L N)) (dep:=1000) (f:=Tryz.f35) (sound_of hΦ) okP (callI_sound (sound_of hΦ) okP 0 1000) rfl fun d _ hy=>(f35.b_eq L N (unR (.many [(.st 2),i64,.bool])) d.1 d.2.1 d.2.2.1).trans (Eq.trans (b:=f35.b L N (fun a0 a1 a2=>some (a0,a1,a2)) d.1 d.2.1 d.2.2.1) (by kernel_rfl) hy)
def Φ35 (L N:Nat):Tells:=(addT (Φ66 L N) 35 (f35.ent L N))
theorem Φ35_ok (L N:Nat):TellsOk Tryz.prog (Φ35 L N):=addT_ok (Φ66_ok L N) (f35.ok L N (Φ66_ok L N))
def f39.s0' (L N:Nat) (k0_e0:LLM->LB->LI->Option R) (rec0:LI->Int->Int->LLM->LB->LI->Option R) (b:LI) (e a:Int) (f:LLM) (c:LB) (d:LI):Option R:=
 bif (decide (a<e)) then
  bif (decide (0≤a)&&decide (a<(b.length:Int))) then
   bif (decide (0≤(listAt b (0:Int) a.toNat))&&decide ((listAt b (0:Int) a.toNat)<(c.length:Int))) then
    bif (!(listAt c false (listAt b (0:Int) a.toNat).toNat)) then
     bif (decide (0≤(listAt b (0:Int) a.toNat))&&decide ((listAt b (0:Int) a.toNat)<(c.length:Int))) then
      bif (decide (d.length+([(listAt b (0:Int) a.toNat)]:LI).length≤lim)) then
       rec0 b e (wi (a+(1:Int))) f (c.set ((listAt b (0:Int) a.toNat).toNat) true) (d++([(listAt b (0:Int) a.toNat)]:LI))
      else none
     else none
    else rec0 b e (wi (a+(1:Int))) f c d
   else none
  else none
 else k0_e0 f c d
def f39.s0 (L N:Nat) (k0_e0:LLM->LB->LI->Option R) (rec0:LI->Int->Int->LLM->LB->LI->Option R) (a:LI) (b c:Int) (d:LLM) (e:LB) (f:LI):Option R:=
 f39.s0' L N k0_e0 rec0 a b c d e f
def f39.l0 (L N:Nat) (k0_e0:LLM->LB->LI->Option R):Nat->LI->Int->Int->LLM->LB->LI->Option R
 |0,_,_,_,_,_,_=>none
 |n+1,a,b,c,d,e,f=>f39.s0 L N k0_e0 (f39.l0 L N k0_e0 n) a b c d e f
def f39.T0 (a:LI) (b c:Int) (d:LLM) (e:LB) (f:LI):T:=mkT 79 [(2,(.ptr 1002 0)),(5,(.row 1015)),(6,(.row 1016)),(17,(.tv (.sl i64) a)),(18,(.tv i64 b)),(19,(.tv i64 c))]
def f39.H0 (d:LI) (e f:Int) (a:LLM) (b:LB) (c:LI):H:=[(1002,(.box [(.tv (.sl (.sl (.st 0))) a)])),(1015,(.row 4 .bool b)),(1016,(.row 3 i64 c))]
def f39.T0_e0 (a:LLM) (b:LB) (c:LI):T:=mkT 79 [(2,(.ptr 1002 0)),(5,(.row 1015)),(6,(.row 1016))]
def f39.H0_e0 (a:LLM) (b:LB) (c:LI):H:=[(1002,(.box [(.tv (.sl (.sl (.st 0))) a)])),(1015,(.row 4 .bool b)),(1016,(.row 3 i64 c))]
def f39.j0' (L N:Nat) (k2_e4:Int->LLM->LB->LI->Option R) (rec2:Int->LM->Int->Int->LLM->LB->LI->Option R) (d:Int) (e:LM) (f g:Int) (i:Bool) (h:LLM) (j a:Int) (b:LB) (c:LI):Option R:=
 bif i then
  bif (decide (0≤a)&&decide (a<(b.length:Int))) then
   bif (decide (c.length+([a]:LI).length≤lim)) then
    rec2 d e f (wi (g+(1:Int))) h (b.set a.toNat true) (c++([a]:LI))
   else none
  else none
 else rec2 d e f (wi (g+(1:Int))) h b c
def f39.s2' (L N:Nat) (k2_e4:Int->LLM->LB->LI->Option R) (rec2:Int->LM->Int->Int->LLM->LB->LI->Option R) (d:Int) (b:LM) (e a:Int) (f:LLM) (c:LB) (g:LI):Option R:=
 bif (decide (a<e)) then
  bif (decide (0≤a)&&decide (a<(b.length:Int))) then
   bif ((listAt b (Ty.dflt (.st 0)) a.toNat).act==(0:Int)) then
    bif (decide (0≤(listAt b (Ty.dflt (.st 0)) a.toNat).to)&&decide ((listAt b (Ty.dflt (.st 0)) a.toNat).to<(c.length:Int))) then
     f39.j0' L N k2_e4 rec2 d b e a (!(listAt c false ((listAt b (Ty.dflt (.st 0)) a.toNat).to).toNat)) f ((listAt b (Ty.dflt (.st 0)) a.toNat).act) ((listAt b (Ty.dflt (.st 0)) a.toNat).to) c g
    else none
   else f39.j0' L N k2_e4 rec2 d b e a false f ((listAt b (Ty.dflt (.st 0)) a.toNat).act) ((listAt b (Ty.dflt (.st 0)) a.toNat).to) c g
  else none
 else k2_e4 d f c g
def f39.s2 (L N:Nat) (k2_e4:Int->LLM->LB->LI->Option R) (rec2:Int->LM->Int->Int->LLM->LB->LI->Option R) (a:Int) (b:LM) (c d:Int) (e:LLM) (f:LB) (g:LI):Option R:=
 f39.s2' L N k2_e4 rec2 a b c d e f g
def f39.l2 (L N:Nat) (k2_e4:Int->LLM->LB->LI->Option R):Nat->Int->LM->Int->Int->LLM->LB->LI->Option R
 |0,_,_,_,_,_,_,_=>none
 |n+1,a,b,c,d,e,f,g=>f39.s2 L N k2_e4 (f39.l2 L N k2_e4 n) a b c d e f g
def f39.T2 (a:Int) (b:LM) (c d:Int) (e:LLM) (f:LB) (g:LI):T:=mkT 79 [(2,(.ptr 1002 0)),(5,(.row 1015)),(6,(.row 1016)),(9,(.tv i64 a)),(49,(.tv (.sl (.st 0)) b)),(50,(.tv i64 c)),(51,(.tv i64 d))]
def f39.H2 (d:Int) (e:LM) (f g:Int) (a:LLM) (b:LB) (c:LI):H:=[(1002,(.box [(.tv (.sl (.sl (.st 0))) a)])),(1015,(.row 4 .bool b)),(1016,(.row 3 i64 c))]
def f39.T2_e4 (a:Int) (b:LLM) (c:LB) (d:LI):T:=mkT 79 [(2,(.ptr 1002 0)),(5,(.row 1015)),(6,(.row 1016)),(9,(.tv i64 a))]
def f39.H2_e4 (d:Int) (a:LLM) (b:LB) (c:LI):H:=[(1002,(.box [(.tv (.sl (.sl (.st 0))) a)])),(1015,(.row 4 .bool b)),(1016,(.row 3 i64 c))]
def f39.p2_e4' (L N:Nat) (k1_e2:LI->Option R) (rec1:Int->LLM->LB->LI->Option R) (a:Int) (b:LLM) (c:LB) (d:LI):Option R:=
 rec1 (wi (a+(1:Int))) b c d
def f39.p2_e4 (L N:Nat) (k1_e2:LI->Option R) (rec1:Int->LLM->LB->LI->Option R) (a:Int) (b:LLM) (c:LB) (d:LI):Option R:=
 f39.p2_e4' L N k1_e2 rec1 a b c d
def f39.s1' (L N:Nat) (k1_e2:LI->Option R) (rec1:Int->LLM->LB->LI->Option R) (d:Int->LM->Int->Int->LLM->LB->LI->Option R) (a:Int) (c:LLM) (e:LB) (b:LI):Option R:=
 bif (decide (a<(b.length:Int))) then
  bif (decide (0≤a)&&decide (a<(b.length:Int))) then
   bif (decide (0≤(listAt b (0:Int) a.toNat))&&decide ((listAt b (0:Int) a.toNat)<(c.length:Int))) then
    d a (listAt c [] (listAt b (0:Int) a.toNat).toNat) ((listAt c [] (listAt b (0:Int) a.toNat).toNat).length:Int) (0:Int) c e b
   else none
  else none
 else k1_e2 b
def f39.s1 (L N:Nat) (k1_e2:LI->Option R) (rec1:Int->LLM->LB->LI->Option R) (a:Int) (b:LLM) (c:LB) (d:LI):Option R:=
 f39.s1' L N k1_e2 rec1 (fun e f g h i j k=>f39.l2 L N (fun l m n o=>f39.p2_e4 L N k1_e2 rec1 l m n o) L e f g h i j k) a b c d
def f39.l1 (L N:Nat) (k1_e2:LI->Option R):Nat->Int->LLM->LB->LI->Option R
 |0,_,_,_,_=>none
 |n+1,a,b,c,d=>f39.s1 L N k1_e2 (f39.l1 L N k1_e2 n) a b c d
end Go.Proofs.YthidlhjjnaldhaaGreatDoor.Ev
