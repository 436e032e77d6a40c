/- The seat's functions as plain functions: made by program (wip/gen/gen.py). -/
import Derived.Test.YthidlhjjnaldhaaGreatDoorEvYa
import Derived.Test.YthidlhjjnaldhaaGreatDoorShelf
import Derived.Test.YthidlhjjnaldhaaGreatDoorEvMut
namespace Go.Proofs.YthidlhjjnaldhaaGreatDoor.Ev
open Go
set_option linter.unusedVariables false
set_option maxRecDepth 20000
def tyTab:List (Nat×Ty):=[(2,i64),(3,i64),(4,.bool),(5,(.int .u8)),(6,(.int .u8)),(9,.str),(10,.str),(11,.str),(12,(.int .u64)),(21,(.int .i32)),(22,(.sl (.int .u8))),(23,(.sl (.st 1))),(24,(.st 1)),(25,(.st 1)),(32,(.sl i64)),(42,(.sl (.st 1))),(43,(.st 1)),(44,(.st 1)),(54,(.sl (.sl (.st 0)))),(55,(.st 2)),(56,(.st 2)),(61,(.sl (.st 0))),(62,(.st 0)),(63,(.st 0)),(90,(.sl (.sl i64))),(94,(.sl .bool)),(98,(.sl (.sl .bool))),(109,(.sl .str)),(110,(.sl (.st 3))),(113,(.st 3)),(130,(.int .u64)),(148,i64),(155,(.int .u32)),(157,(.int .u64)),(171,(.int .u64)),(205,(.int .u8)),(206,(.int .u8)),(209,(.int .i32)),(210,(.int .i32))]
def tyOf (t:Nat):Option Ty:=tyFind t tyTab
def lives (f i:Nat):List Nat×List Nat:=
 bif Nat.beq f 5&&Nat.beq i 0 then ([10,11,12,13,14],[]) else
 bif Nat.beq f 16&&Nat.beq i 0 then ([2,6,7,8],[2,6]) else
 bif Nat.beq f 20&&Nat.beq i 0 then ([4,13,14],[8]) else
 bif Nat.beq f 21&&Nat.beq i 0 then ([0,1,5],[]) else
 bif Nat.beq f 48&&Nat.beq i 0 then ([0,3,5,6],[3,8]) else
 bif Nat.beq f 52&&Nat.beq i 0 then ([2,3,12,13,14],[2,3,900]) else
 bif Nat.beq f 57&&Nat.beq i 0 then ([0,1,5],[]) else
 bif Nat.beq f 58&&Nat.beq i 0 then ([1,2,4,11,12,13],[2,4]) else
 bif Nat.beq f 58&&Nat.beq i 2 then ([1,38,39],[]) else
 bif Nat.beq f 66&&Nat.beq i 0 then ([2,3,4,6,32,33,34],[2,3,4,6,900]) else
 bif Nat.beq f 66&&Nat.beq i 2 then ([2,4,6,47,48,49],[2,4,6,900]) else
 bif Nat.beq f 81&&Nat.beq i 0 then ([1,5,9,10,11],[]) else
 bif Nat.beq f 83&&Nat.beq i 1 then ([4,14,244,245,246],[4,242,244]) else
 bif Nat.beq f 85&&Nat.beq i 1 then ([1,3,5,6],[1]) else
 bif Nat.beq f 86&&Nat.beq i 1 then ([4,6,7,8],[4,67,69]) else
 bif Nat.beq f 87&&Nat.beq i 1 then ([1,2,4,5,6],[2,4,5,910]) else
 bif Nat.beq f 88&&Nat.beq i 0 then ([0,1,5,6],[7]) else
 bif Nat.beq f 93&&Nat.beq i 1 then ([2,5,6,7,61,62,63],[2,53,59,60]) else
 bif Nat.beq f 93&&Nat.beq i 3 then ([2,5,6,7,81,82,83],[2,53,59,60]) else
 bif Nat.beq f 93&&Nat.beq i 5 then ([6,7,101,102,103],[53,59,60]) else
 bif Nat.beq f 93&&Nat.beq i 7 then ([6,7,13,101,102,103,107,108,109],[13,53,59,60]) else
 bif Nat.beq f 93&&Nat.beq i 9 then ([2,16,144,145,146],[2,138,144]) else
 bif Nat.beq f 96&&Nat.beq i 0 then ([0,2,3,4],[2,3]) else
 bif Nat.beq f 97&&Nat.beq i 0 then ([1,2,5,6],[2]) else
 bif Nat.beq f 98&&Nat.beq i 1 then ([2,5,6,7,8],[2,14,51,57]) else
 bif Nat.beq f 98&&Nat.beq i 3 then ([2,5,6,7,9],[2,14,51,57]) else
 bif Nat.beq f 98&&Nat.beq i 5 then ([5,6,7,10],[14,51,57]) else
 bif Nat.beq f 98&&Nat.beq i 7 then ([5,6,7,10,11],[14,51,57]) else
 bif Nat.beq f 98&&Nat.beq i 9 then ([2,5,12,13],[2,14,165]) else
 bif Nat.beq f 99&&Nat.beq i 1 then ([1,3,4],[1]) else
 bif Nat.beq f 100&&Nat.beq i 0 then ([0,2,3,4],[2,3]) else
 bif Nat.beq f 104&&Nat.beq i 0 then ([1,2,6,8,9,10,11],[6,10,22,23,900,901]) else
 bif Nat.beq f 104&&Nat.beq i 2 then ([1,2,6,8,9,10,11,12,15,49,50,51],[6,10,22,23,48,900,901]) else
 bif Nat.beq f 105&&Nat.beq i 0 then ([6,7,14,15,16],[10,11,14]) else
 bif Nat.beq f 106&&Nat.beq i 0 then ([1,18,19,20],[1]) else
 bif Nat.beq f 106&&Nat.beq i 2 then ([1,4,18,19,20,24,25,26],[1]) else
 bif Nat.beq f 107&&Nat.beq i 0 then ([1,5,9,10,11],[8]) else
 bif Nat.beq f 111&&Nat.beq i 0 then ([3,5],[3,10]) else
 bif Nat.beq f 112&&Nat.beq i 0 then ([0,6,14,15,16],[9]) else
 bif Nat.beq f 129&&Nat.beq i 0 then ([0,1,7,8],[]) else
 bif Nat.beq f 144&&Nat.beq i 0 then ([0,1,5,6,16,17],[11,14]) else
 bif Nat.beq f 144&&Nat.beq i 2 then ([0,1,5,6,7,8,16,17],[11,14]) else
 bif Nat.beq f 146&&Nat.beq i 0 then ([0,1,12,13],[]) else
 bif Nat.beq f 164&&Nat.beq i 0 then ([1,2,5],[2]) else
 bif Nat.beq f 185&&Nat.beq i 0 then ([0,1,12,13],[]) else
 ([],[])
def livesX (f i:Nat):List Nat×List Nat:=
 bif Nat.beq f 5&&Nat.beq i 0 then ([2,10,11],[]) else
 bif Nat.beq f 16&&Nat.beq i 0 then ([2,6,7,8],[2,6]) else
 bif Nat.beq f 20&&Nat.beq i 0 then ([4],[8]) else
 bif Nat.beq f 21&&Nat.beq i 0 then ([4],[]) else
 bif Nat.beq f 48&&Nat.beq i 0 then ([0,5],[8]) else
 bif Nat.beq f 52&&Nat.beq i 0 then ([2,3],[2,3,900]) else
 bif Nat.beq f 57&&Nat.beq i 0 then ([4],[]) else
 bif Nat.beq f 58&&Nat.beq i 0 then ([1,2,4],[2,4]) else
 bif Nat.beq f 58&&Nat.beq i 2 then ([],[]) else
 bif Nat.beq f 66&&Nat.beq i 0 then ([2,3,4,6],[2,3,4,6,900]) else
 bif Nat.beq f 66&&Nat.beq i 2 then ([4,6],[4,6,900]) else
 bif Nat.beq f 81&&Nat.beq i 0 then ([4,5],[]) else
 bif Nat.beq f 83&&Nat.beq i 1 then ([4,14],[4,242]) else
 bif Nat.beq f 85&&Nat.beq i 1 then ([2,5],[]) else
 bif Nat.beq f 86&&Nat.beq i 1 then ([4,6],[4,67]) else
 bif Nat.beq f 87&&Nat.beq i 1 then ([4,5],[4,5,910]) else
 bif Nat.beq f 88&&Nat.beq i 0 then ([0,1,5],[7]) else
 bif Nat.beq f 93&&Nat.beq i 1 then ([2,5,6,7],[2,53,59,60]) else
 bif Nat.beq f 93&&Nat.beq i 3 then ([5,6,7],[53,59,60]) else
 bif Nat.beq f 93&&Nat.beq i 5 then ([7],[60]) else
 bif Nat.beq f 93&&Nat.beq i 7 then ([6,7,101,102,103],[53,59,60]) else
 bif Nat.beq f 93&&Nat.beq i 9 then ([16],[138]) else
 bif Nat.beq f 96&&Nat.beq i 0 then ([2,3],[2,3]) else
 bif Nat.beq f 97&&Nat.beq i 0 then ([5],[]) else
 bif Nat.beq f 98&&Nat.beq i 1 then ([2,5,6,7],[2,14,51,57]) else
 bif Nat.beq f 98&&Nat.beq i 3 then ([5,6,7],[14,51,57]) else
 bif Nat.beq f 98&&Nat.beq i 5 then ([5],[14]) else
 bif Nat.beq f 98&&Nat.beq i 7 then ([5,6,7,10],[14,51,57]) else
 bif Nat.beq f 98&&Nat.beq i 9 then ([5],[14]) else
 bif Nat.beq f 99&&Nat.beq i 1 then ([3],[]) else
 bif Nat.beq f 100&&Nat.beq i 0 then ([2,3],[2,3]) else
 bif Nat.beq f 104&&Nat.beq i 0 then ([6,7,10],[6,10,900,901]) else
 bif Nat.beq f 104&&Nat.beq i 2 then ([1,2,6,7,8,9,10,11,15],[6,10,22,23,48,900,901]) else
 bif Nat.beq f 105&&Nat.beq i 0 then ([3,4,5,6,7],[10,11]) else
 bif Nat.beq f 106&&Nat.beq i 0 then ([2],[]) else
 bif Nat.beq f 106&&Nat.beq i 2 then ([1,2,18,19,20],[1]) else
 bif Nat.beq f 107&&Nat.beq i 0 then ([5],[8]) else
 bif Nat.beq f 111&&Nat.beq i 0 then ([4],[10]) else
 bif Nat.beq f 112&&Nat.beq i 0 then ([6],[9]) else
 bif Nat.beq f 129&&Nat.beq i 0 then ([4],[]) else
 bif Nat.beq f 144&&Nat.beq i 0 then ([5],[11]) else
 bif Nat.beq f 144&&Nat.beq i 2 then ([0,1,5,6,16,17],[11,14]) else
 bif Nat.beq f 146&&Nat.beq i 0 then ([4],[]) else
 bif Nat.beq f 164&&Nat.beq i 0 then ([1,2,4],[2]) else
 bif Nat.beq f 185&&Nat.beq i 0 then ([4],[]) else
 ([],[])
def promT (f i:Nat):List (Nat×Nat×Nat×Option Nat×Nat×Ty):=
 bif Nat.beq f 52&&Nat.beq i 0 then [(3,2,900,none,25,(.st 1))] else
 bif Nat.beq f 66&&Nat.beq i 0 then [(6,0,900,none,61,(.sl (.st 0)))] else
 bif Nat.beq f 87&&Nat.beq i 1 then [(5,2,910,none,25,(.st 1))] else
 bif Nat.beq f 104&&Nat.beq i 0 then [(6,0,900,(some 0),0,(.sl (.st 0))),(10,0,901,(some 0),0,(.sl (.st 0)))] else
 []
def healT (f i:Nat):List Nat:=
 []
def renT (f i:Nat):List (Nat×Nat):=
 bif Nat.beq f 105&&Nat.beq i 0 then [(10,28),(11,33)] else
 []
def inlT (f:Nat):Bool:=memN f []
theorem okP:OkP Tryz.prog:=OkP.mk' (by kernel_rfl) (by kernel_rfl)
def Φx (L N:Nat):Tells:=addT (addT (addT (addT (addT noTells 71 sortEnt) 95 sortSEnt) 68 tidyEnt) 70 (cloneEnt 3)) 132 itoaEnt
theorem Φx_ok (L N:Nat):TellsOk Tryz.prog (Φx L N):=addT_ok (addT_ok (addT_ok (addT_ok (addT_ok (no_ok _) (sort_ok ⟨Tryz.f71,rfl,by kernel_rfl,by kernel_rfl⟩ sortC sortNone)) (sortS_ok ⟨Tryz.f95,rfl,by kernel_rfl,by kernel_rfl⟩ sortSC sortSNone)) (tidy_ok ⟨Tryz.f68,rfl,by kernel_rfl,by kernel_rfl⟩ tidyC tidyNone)) (clone_ok ⟨Tryz.f70,rfl,by kernel_rfl,by kernel_rfl⟩ cloneC cloneZero cloneNil)) (itoa_ok ⟨Tryz.f132,rfl,by kernel_rfl,by kernel_rfl⟩ itoaC)
def f81.s0' {R:Type} (L N:Nat) (self81:Tree→Int→Option (Int)) (k0_e0:Int→Option R) (k0_r:Int→Int→Option R) (rec0:Int→Int→LT→Int→Int→Option R) (s0:Int) (s1:Int) (s2:LT) (s3:Int) (s4:Int):Option R:=
 bif (decide (s4<s3)) then
  bif (decide (0≤s4)&&decide (s4<(s2.length:Int))) then
   bif (decide (s1>s0)) then
    k0_r s1 s1
   else (self81 (Tree.mk ((listAt s2 (Ty.dflt (.st 1)) s4.toNat).op) ((listAt s2 (Ty.dflt (.st 1)) s4.toNat).n) ((listAt s2 (Ty.dflt (.st 1)) s4.toNat).parts)) (wi (s0-s1))).bind fun y8=>
   rec0 s0 (wi (s1+y8)) s2 s3 (wi (s4+(1:Int)))
  else none
 else k0_e0 s1
def f81.s0 {R:Type} (L N:Nat) (self81:Tree→Int→Option (Int)) (k0_e0:Int→Option R) (k0_r:Int→Int→Option R) (rec0:Int→Int→LT→Int→Int→Option R) (s0:Int) (s1:Int) (s2:LT) (s3:Int) (s4:Int):Option R:=
 f81.s0' L N self81 k0_e0 k0_r rec0 s0 s1 s2 s3 s4
def f81.l0 {R:Type} (L N:Nat) (self81:Tree→Int→Option (Int)) (k0_e0:Int→Option R) (k0_r:Int→Int→Option R):Nat→Int→Int→LT→Int→Int→Option R
 |0,_,_,_,_,_=>none
 |n+1,s0,s1,s2,s3,s4=>f81.s0 L N self81 k0_e0 k0_r (f81.l0 L N self81 k0_e0 k0_r n) s0 s1 s2 s3 s4
def f81.T0 (s0:Int) (s1:Int) (s2:LT) (s3:Int) (s4:Int):T:=mkT 28 [(1,(.tv i64 s0)),(5,(.tv i64 s1)),(9,(.tv (.sl (.st 1)) s2)),(10,(.tv i64 s3)),(11,(.tv i64 s4))]
def f81.H0 (s0:Int) (s1:Int) (s2:LT) (s3:Int) (s4:Int):H:=[]
def f81.T0_e0 (z5:Int):T:=mkT 28 [(5,(.tv i64 z5))]
def f81.H0_e0 (z5:Int):H:=[]
def f81.T0_r (z6:Int) (z7:Int):T:=mkT 28 [(4,(.tv i64 z6)),(5,(.tv i64 z7))]
def f81.H0_r (z6:Int) (z7:Int):H:=[]
def f81.p0_e0' {R:Type} (L N:Nat) (self81:Tree→Int→Option (Int)) (k:Int→Option R) (z5:Int):Option R:=
 k z5
def f81.p0_e0 {R:Type} (L N:Nat) (self81:Tree→Int→Option (Int)) (k:Int→Option R) (z5:Int):Option R:=
 f81.p0_e0' L N self81 k z5
def f81.p0_r' {R:Type} (L N:Nat) (self81:Tree→Int→Option (Int)) (k:Int→Option R) (z6:Int) (z7:Int):Option R:=
 k z6
def f81.p0_r {R:Type} (L N:Nat) (self81:Tree→Int→Option (Int)) (k:Int→Option R) (z6:Int) (z7:Int):Option R:=
 f81.p0_r' L N self81 k z6 z7
def f81.b' {R:Type} (L N:Nat) (self81:Tree→Int→Option (Int)) (k:Int→Option R) (w0:Int→Int→LT→Int→Int→Option R) (x0:Tree) (x1:Int):Option R:=
 w0 x1 (1:Int) x0.parts (x0.parts.length:Int) (0:Int)
def f81.b {R:Type} (L N:Nat) (self81:Tree→Int→Option (Int)) (k:Int→Option R) (x0:Tree) (x1:Int):Option R:=
 f81.b' L N self81 k (fun s0 s1 s2 s3 s4=>f81.l0 L N self81 (fun z5=>f81.p0_e0 L N self81 k z5) (fun z6 z7=>f81.p0_r L N self81 k z6 z7) L s0 s1 s2 s3 s4) x0 x1
def f81 (L N:Nat):Nat→Tree→Int→Option (Int)
 |0,_,_=>none
 |n+1,x0,x1=>f81.b L N (f81 L N n) some x0 x1
def f81.ent (L N m:Nat):=entRo [(.st 1),i64] (.one i64) fun d=>f81 L N m d.1 d.2.1
def Φ81s (L N m:Nat):Tells:=(addT (Φx L N) 81 (f81.ent L N m))
noncomputable def E81 (L N m:Nat):Env:={P:=Tryz.prog,ty:=tyOf,Φ:=Φ81s L N m,inl:=inlT,live:=lives,liveX:=livesX,L:=L,dp:=none,prom:=promT,heal:=healT,ren:=renT}
noncomputable def f81.c0:Code:=loopAt 0 (codeOf Tryz.f81)
def f81.X0_e0 {R:Type} (κ:KX R):=fun z5=>κ (.exit 0) (f81.T0_e0 z5) (f81.H0_e0 z5)
def f81.X0_r {R:Type} (κ:KX R):=fun z6 z7=>κ .ret (f81.T0_r z6 z7) (f81.H0_r z6 z7)
def f81.R0 {R:Type} (rec:KT R):=fun s0 s1 s2 s3 s4=>rec (f81.T0 s0 s1 s2 s3 s4) (f81.H0 s0 s1 s2 s3 s4)
theorem f81.s0_eq {R:Type} (L N m:Nat) (κ:KX R) (rec:KT R) (s0:Int) (s1:Int) (s2:LT) (s3:Int) (s4:Int):
  evRd (E81 L N m) (evCallI (E81 L N m) 0 1000) 1000 81 28 0 f81.c0 κ rec (f81.T0 s0 s1 s2 s3 s4) (f81.H0 s0 s1 s2 s3 s4)
  =f81.s0 L N (f81 L N m) (f81.X0_e0 κ) (f81.X0_r κ) (f81.R0 rec) s0 s1 s2 s3 s4:=by kernel_rfl
theorem f81.l0_eq {R:Type} (L N m:Nat) (κ:KX R):∀(n:Nat) (s0:Int) (s1:Int) (s2:LT) (s3:Int) (s4:Int),
  evLp (E81 L N m) (evCallI (E81 L N m) 0 1000) 1000 81 28 0 f81.c0 κ n (f81.T0 s0 s1 s2 s3 s4) (f81.H0 s0 s1 s2 s3 s4)
  =f81.l0 L N (f81 L N m) (f81.X0_e0 κ) (f81.X0_r κ) n s0 s1 s2 s3 s4:=by
 intro n
 induction n with
 |zero=>intros;rfl
 |succ n ih=>
  intro s0 s1 s2 s3 s4
  rw [evLp_succ,f81.s0_eq]
  delta f81.R0
  simp only [ih]
  rfl
theorem f81.p0_e0_eq {R:Type} (L N m:Nat) (κ:AV→Option R) (z5:Int):
  (contAt (E81 L N m) (evCallI (E81 L N m) 0 1000) 1000 81 28 0 (codeOf Tryz.f81) (finK (E81 L N m) 1000 Tryz.f81 (finC (.one i64) κ))) (.exit 0) (f81.T0_e0 z5) (f81.H0_e0 z5)
  =f81.p0_e0 L N (f81 L N m) (fun a0=>κ (.tv i64 a0)) z5:=by kernel_rfl
theorem f81.p0_r_eq {R:Type} (L N m:Nat) (κ:AV→Option R) (z6:Int) (z7:Int):
  (contAt (E81 L N m) (evCallI (E81 L N m) 0 1000) 1000 81 28 0 (codeOf Tryz.f81) (finK (E81 L N m) 1000 Tryz.f81 (finC (.one i64) κ))) .ret (f81.T0_r z6 z7) (f81.H0_r z6 z7)
  =f81.p0_r L N (f81 L N m) (fun a0=>κ (.tv i64 a0)) z6 z7:=by kernel_rfl
theorem f81.b_eq {R:Type} (L N m:Nat) (κ:AV→Option R) (x0:Tree) (x1:Int):
  evBody (E81 L N m) (evCallI (E81 L N m) 0 1000) 1000 81 Tryz.f81 [(.tv (.st 1) x0),(.tv i64 x1)] [] [] (finC (.one i64) κ)
  =f81.b L N (f81 L N m) (fun a0=>κ (.tv i64 a0)) x0 x1:=by
 refine Eq.trans (b:=f81.b' L N (f81 L N m) (fun a0=>κ (.tv i64 a0)) (fun s0 s1 s2 s3 s4=>evLp (E81 L N m) (evCallI (E81 L N m) 0 1000) 1000 81 28 0 f81.c0 (contAt (E81 L N m) (evCallI (E81 L N m) 0 1000) 1000 81 28 0 (codeOf Tryz.f81) (finK (E81 L N m) 1000 Tryz.f81 (finC (.one i64) κ))) L (f81.T0 s0 s1 s2 s3 s4) (f81.H0 s0 s1 s2 s3 s4)) x0 x1) (by kernel_rfl) ?_
 unfold f81.b
 simp only [f81.l0_eq]
 delta f81.X0_e0 f81.X0_r
 simp only [f81.p0_e0_eq,f81.p0_r_eq]
theorem f81.ok (L N m:Nat) (hΦ:TellsOk Tryz.prog (Φ81s L N m)):EntOk Tryz.prog 81 (f81.ent L N (m+1)):=entRo_ok (E:=(E81 L N m)) (dep:=1000) (f:=Tryz.f81) (sound_of hΦ) okP (callI_sound (sound_of hΦ) okP 0 1000) rfl rfl fun d _ hy=>(f81.b_eq L N m (unR (.one i64)) d.1 d.2.1).trans (Eq.trans (b:=f81.b L N (f81 L N m) some d.1 d.2.1) (by kernel_rfl) hy)
theorem Φ81s_ok (L N:Nat):∀m,TellsOk Tryz.prog (Φ81s L N m):=by
 intro m
 induction m with
 |zero=>exact (addT_ok (Φx_ok L N) (entRo_no fun _=>rfl))
 |succ m ih=>exact (addT_ok (Φx_ok L N) (f81.ok L N m ih))
def Φ81 (L N:Nat):Tells:=(addT (Φx L N) 81 (f81.ent L N N))
theorem Φ81_ok (L N:Nat):TellsOk Tryz.prog (Φ81 L N):=Φ81s_ok L N N
def f121.b' {R:Type} (L N:Nat) (k:Bool→Option R) (x0:Int):Option R:=
 bif (decide (x0≥(-4:Int))) then
  k (decide (x0≤(4:Int)))
 else k false
def f121.b {R:Type} (L N:Nat) (k:Bool→Option R) (x0:Int):Option R:=
 f121.b' L N k x0
def f121 (L N:Nat) (x0:Int):Option (Bool):=f121.b L N some x0
def f121.ent (L N:Nat):=entRo [i64] (.one .bool) fun d=>f121 L N d.1
noncomputable def E121 (L N:Nat):Env:={P:=Tryz.prog,ty:=tyOf,Φ:=(Φ81 L N),inl:=inlT,live:=lives,liveX:=livesX,L:=L,dp:=none,prom:=promT,heal:=healT,ren:=renT}
theorem f121.b_eq {R:Type} (L N:Nat) (κ:AV→Option R) (x0:Int):
  evBody (E121 L N) (evCallI (E121 L N) 0 1000) 1000 121 Tryz.f121 [(.tv i64 x0)] [] [] (finC (.one .bool) κ)
  =f121.b L N (fun a0=>κ (.tv .bool a0)) x0:=by kernel_rfl
theorem f121.ok (L N:Nat) (hΦ:TellsOk Tryz.prog ((Φ81 L N))):EntOk Tryz.prog 121 (f121.ent L N):=entRo_ok (E:=(E121 L N)) (dep:=1000) (f:=Tryz.f121) (sound_of hΦ) okP (callI_sound (sound_of hΦ) okP 0 1000) rfl rfl fun d _ hy=>(f121.b_eq L N (unR (.one .bool)) d.1).trans (Eq.trans (b:=f121.b L N some d.1) (by kernel_rfl) hy)
def Φ121 (L N:Nat):Tells:=(addT (Φ81 L N) 121 (f121.ent L N))
theorem Φ121_ok (L N:Nat):TellsOk Tryz.prog (Φ121 L N):=addT_ok (Φ81_ok L N) (f121.ok L N (Φ81_ok L N))
def f122.b' {R:Type} (L N:Nat) (k:Bool→Option R) (x0:Int):Option R:=
 bif (decide (x0≥(0:Int))) then
  k (decide (x0<(4:Int)))
 else k false
def f122.b {R:Type} (L N:Nat) (k:Bool→Option R) (x0:Int):Option R:=
 f122.b' L N k x0
def f122 (L N:Nat) (x0:Int):Option (Bool):=f122.b L N some x0
def f122.ent (L N:Nat):=entRo [i64] (.one .bool) fun d=>f122 L N d.1
noncomputable def E122 (L N:Nat):Env:={P:=Tryz.prog,ty:=tyOf,Φ:=(Φ121 L N),inl:=inlT,live:=lives,liveX:=livesX,L:=L,dp:=none,prom:=promT,heal:=healT,ren:=renT}
theorem f122.b_eq {R:Type} (L N:Nat) (κ:AV→Option R) (x0:Int):
  evBody (E122 L N) (evCallI (E122 L N) 0 1000) 1000 122 Tryz.f122 [(.tv i64 x0)] [] [] (finC (.one .bool) κ)
  =f122.b L N (fun a0=>κ (.tv .bool a0)) x0:=by kernel_rfl
theorem f122.ok (L N:Nat) (hΦ:TellsOk Tryz.prog ((Φ121 L N))):EntOk Tryz.prog 122 (f122.ent L N):=entRo_ok (E:=(E122 L N)) (dep:=1000) (f:=Tryz.f122) (sound_of hΦ) okP (callI_sound (sound_of hΦ) okP 0 1000) rfl rfl fun d _ hy=>(f122.b_eq L N (unR (.one .bool)) d.1).trans (Eq.trans (b:=f122.b L N some d.1) (by kernel_rfl) hy)
def Φ122 (L N:Nat):Tells:=(addT (Φ121 L N) 122 (f122.ent L N))
theorem Φ122_ok (L N:Nat):TellsOk Tryz.prog (Φ122 L N):=addT_ok (Φ121_ok L N) (f122.ok L N (Φ121_ok L N))
def f82.j1' {R:Type} (L N:Nat) (self82:Tree→Option (Bool)) (self123:Tree→Option (Bool)) (self90_2:LT→Option (Bool)) (self129_2:LT→Option (Int)) (k:Bool→Option R) (v13:Int) (v14:Int) (v15:Int) (v16:LT):Option R:=
 bif ((v16.length:Int)==v13) then
  (self90_2 v16).bind fun y17=>
  k (!y17)
 else k false
def f82.j0' {R:Type} (L N:Nat) (self82:Tree→Option (Bool)) (self123:Tree→Option (Bool)) (self90_2:LT→Option (Bool)) (self129_2:LT→Option (Int)) (k:Bool→Option R) (v1:Int) (v2:Int) (v3:Bool) (v4:Int) (v5:Int) (v6:LT):Option R:=
 bif v3 then
  bif (v5 !=(0:Int)) then
   k false
  else f82.j1' L N self82 self123 self90_2 self129_2 k (2:Int) v4 v5 v6
 else bif (v2==(4:Int)) then
  (f122 L N v5).bind fun y7=>
  bif (!y7) then
   k false
  else f82.j1' L N self82 self123 self90_2 self129_2 k (1:Int) v4 v5 v6
 else bif (v2==(5:Int)) then
  bif (decide (v5<(0:Int))) then
   k false
  else bif (decide (v5≥(3:Int))) then
   k false
  else f82.j1' L N self82 self123 self90_2 self129_2 k v1 v4 v5 v6
 else k false
def f82.b' {R:Type} (L N:Nat) (self82:Tree→Option (Bool)) (self123:Tree→Option (Bool)) (self90_2:LT→Option (Bool)) (self129_2:LT→Option (Int)) (k:Bool→Option R) (x0:Tree):Option R:=
 bif (x0.op==(0:Int)) then
  bif (x0.n !=(0:Int)) then
   k false
  else f82.j1' L N self82 self123 self90_2 self129_2 k (0:Int) x0.op x0.n x0.parts
 else bif (x0.op==(1:Int)) then
  (f121 L N x0.n).bind fun y0=>
  bif (!y0) then
   k false
  else f82.j1' L N self82 self123 self90_2 self129_2 k (1:Int) x0.op x0.n x0.parts
 else bif (x0.op==(2:Int)) then
  f82.j0' L N self82 self123 self90_2 self129_2 k (0:Int) x0.op (x0.op==(2:Int)) x0.op x0.n x0.parts
 else f82.j0' L N self82 self123 self90_2 self129_2 k (0:Int) x0.op (x0.op==(3:Int)) x0.op x0.n x0.parts
def f82.b {R:Type} (L N:Nat) (self82:Tree→Option (Bool)) (self123:Tree→Option (Bool)) (self90_2:LT→Option (Bool)) (self129_2:LT→Option (Int)) (k:Bool→Option R) (x0:Tree):Option R:=
 f82.b' L N self82 self123 self90_2 self129_2 k x0
def f123.b' {R:Type} (L N:Nat) (self82:Tree→Option (Bool)) (self123:Tree→Option (Bool)) (self90_2:LT→Option (Bool)) (self129_2:LT→Option (Int)) (k:Bool→Option R) (x0:Tree):Option R:=
 (self82 (Tree.mk x0.op x0.n x0.parts)).bind fun y0=>
 k (!y0)
def f123.b {R:Type} (L N:Nat) (self82:Tree→Option (Bool)) (self123:Tree→Option (Bool)) (self90_2:LT→Option (Bool)) (self129_2:LT→Option (Int)) (k:Bool→Option R) (x0:Tree):Option R:=
 f123.b' L N self82 self123 self90_2 self129_2 k x0
def f90_2.b' {R:Type} (L N:Nat) (self82:Tree→Option (Bool)) (self123:Tree→Option (Bool)) (self90_2:LT→Option (Bool)) (self129_2:LT→Option (Int)) (k:Bool→Option R) (x0:LT):Option R:=
 (self129_2 x0).bind fun y0=>
 k (decide (y0≥(0:Int)))
def f90_2.b {R:Type} (L N:Nat) (self82:Tree→Option (Bool)) (self123:Tree→Option (Bool)) (self90_2:LT→Option (Bool)) (self129_2:LT→Option (Int)) (k:Bool→Option R) (x0:LT):Option R:=
 f90_2.b' L N self82 self123 self90_2 self129_2 k x0
def f129_2.s0' {R:Type} (L N:Nat) (self82:Tree→Option (Bool)) (self123:Tree→Option (Bool)) (self90_2:LT→Option (Bool)) (self129_2:LT→Option (Int)) (k0_e0:Option R) (k0_r:Int→Option R) (rec0:LT→Int→Int→Option R) (s0:LT) (s1:Int) (s2:Int):Option R:=
 bif (decide (s2<s1)) then
  bif (decide (0≤s2)&&decide (s2<(s0.length:Int))) then
   (self123 (listAt s0 (Ty.dflt (.st 1)) s2.toNat)).bind fun y3=>
   bif y3 then
    k0_r s2
   else rec0 s0 s1 (wi (s2+(1:Int)))
  else none
 else k0_e0
def f129_2.s0 {R:Type} (L N:Nat) (self82:Tree→Option (Bool)) (self123:Tree→Option (Bool)) (self90_2:LT→Option (Bool)) (self129_2:LT→Option (Int)) (k0_e0:Option R) (k0_r:Int→Option R) (rec0:LT→Int→Int→Option R) (s0:LT) (s1:Int) (s2:Int):Option R:=
 f129_2.s0' L N self82 self123 self90_2 self129_2 k0_e0 k0_r rec0 s0 s1 s2
def f129_2.l0 {R:Type} (L N:Nat) (self82:Tree→Option (Bool)) (self123:Tree→Option (Bool)) (self90_2:LT→Option (Bool)) (self129_2:LT→Option (Int)) (k0_e0:Option R) (k0_r:Int→Option R):Nat→LT→Int→Int→Option R
 |0,_,_,_=>none
 |n+1,s0,s1,s2=>f129_2.s0 L N self82 self123 self90_2 self129_2 k0_e0 k0_r (f129_2.l0 L N self82 self123 self90_2 self129_2 k0_e0 k0_r n) s0 s1 s2
def f129_2.T0 (s0:LT) (s1:Int) (s2:Int):T:=mkT 19 [(0,(.tv (.sl (.st 1)) s0)),(1,(.fn 123 [])),(7,(.tv i64 s1)),(8,(.tv i64 s2))]
def f129_2.H0 (s0:LT) (s1:Int) (s2:Int):H:=[]
def f129_2.T0_e0:T:=mkT 19 []
def f129_2.H0_e0:H:=[]
def f129_2.T0_r (z4:Int):T:=mkT 19 [(4,(.tv i64 z4))]
def f129_2.H0_r (z4:Int):H:=[]
def f129_2.p0_e0' {R:Type} (L N:Nat) (self82:Tree→Option (Bool)) (self123:Tree→Option (Bool)) (self90_2:LT→Option (Bool)) (self129_2:LT→Option (Int)) (k:Int→Option R):Option R:=
 k (-1:Int)
def f129_2.p0_e0 {R:Type} (L N:Nat) (self82:Tree→Option (Bool)) (self123:Tree→Option (Bool)) (self90_2:LT→Option (Bool)) (self129_2:LT→Option (Int)) (k:Int→Option R):Option R:=
 f129_2.p0_e0' L N self82 self123 self90_2 self129_2 k
def f129_2.p0_r' {R:Type} (L N:Nat) (self82:Tree→Option (Bool)) (self123:Tree→Option (Bool)) (self90_2:LT→Option (Bool)) (self129_2:LT→Option (Int)) (k:Int→Option R) (z4:Int):Option R:=
 k z4
def f129_2.p0_r {R:Type} (L N:Nat) (self82:Tree→Option (Bool)) (self123:Tree→Option (Bool)) (self90_2:LT→Option (Bool)) (self129_2:LT→Option (Int)) (k:Int→Option R) (z4:Int):Option R:=
 f129_2.p0_r' L N self82 self123 self90_2 self129_2 k z4
def f129_2.b' {R:Type} (L N:Nat) (self82:Tree→Option (Bool)) (self123:Tree→Option (Bool)) (self90_2:LT→Option (Bool)) (self129_2:LT→Option (Int)) (k:Int→Option R) (w0:LT→Int→Int→Option R) (x0:LT):Option R:=
 w0 x0 (x0.length:Int) (0:Int)
def f129_2.b {R:Type} (L N:Nat) (self82:Tree→Option (Bool)) (self123:Tree→Option (Bool)) (self90_2:LT→Option (Bool)) (self129_2:LT→Option (Int)) (k:Int→Option R) (x0:LT):Option R:=
 f129_2.b' L N self82 self123 self90_2 self129_2 k (fun s0 s1 s2=>f129_2.l0 L N self82 self123 self90_2 self129_2 (f129_2.p0_e0 L N self82 self123 self90_2 self129_2 k) (fun z4=>f129_2.p0_r L N self82 self123 self90_2 self129_2 k z4) L s0 s1 s2) x0
mutual
def f82 (L N:Nat):Nat→Tree→Option (Bool)
 |0,_=>none
 |n+1,x0=>f82.b L N (f82 L N n) (f123 L N n) (f90_2 L N n) (f129_2 L N n) some x0
def f123 (L N:Nat):Nat→Tree→Option (Bool)
 |0,_=>none
 |n+1,x0=>f123.b L N (f82 L N n) (f123 L N n) (f90_2 L N n) (f129_2 L N n) some x0
def f90_2 (L N:Nat):Nat→LT→Option (Bool)
 |0,_=>none
 |n+1,x0=>f90_2.b L N (f82 L N n) (f123 L N n) (f90_2 L N n) (f129_2 L N n) some x0
def f129_2 (L N:Nat):Nat→LT→Option (Int)
 |0,_=>none
 |n+1,x0=>f129_2.b L N (f82 L N n) (f123 L N n) (f90_2 L N n) (f129_2 L N n) some x0
end
def f82.ent (L N m:Nat):=entRo [(.st 1)] (.one .bool) fun d=>f82 L N m d.1
def f123.ent (L N m:Nat):=entRo [(.st 1)] (.one .bool) fun d=>f123 L N m d.1
def f90_2.ent (L N m:Nat):=entRf [(.dat (.sl (.st 1))),(.fn 123 [])] (.one .bool) fun d=>f90_2 L N m d.1
def f129_2.ent (L N m:Nat):=entRf [(.dat (.sl (.st 1))),(.fn 123 [])] (.one i64) fun d=>f129_2 L N m d.1
def Φ82s (L N m:Nat):Tells:=(addO (addO (addT (addT (Φ122 L N) 82 (f82.ent L N m)) 123 (f123.ent L N m)) 90 (f90_2.ent L N m)) 129 (f129_2.ent L N m))
noncomputable def E82 (L N m:Nat):Env:={P:=Tryz.prog,ty:=tyOf,Φ:=Φ82s L N m,inl:=inlT,live:=lives,liveX:=livesX,L:=L,dp:=none,prom:=promT,heal:=healT,ren:=renT}
theorem f82.b_eq {R:Type} (L N m:Nat) (κ:AV→Option R) (x0:Tree):
  evBody (E82 L N m) (evCallI (E82 L N m) 0 1000) 1000 82 Tryz.f82 [(.tv (.st 1) x0)] [] [] (finC (.one .bool) κ)
  =f82.b L N (f82 L N m) (f123 L N m) (f90_2 L N m) (f129_2 L N m) (fun a0=>κ (.tv .bool a0)) x0:=by kernel_rfl
theorem f123.b_eq {R:Type} (L N m:Nat) (κ:AV→Option R) (x0:Tree):
  evBody (E82 L N m) (evCallI (E82 L N m) 0 1000) 1000 123 Tryz.f123 [(.tv (.st 1) x0)] [] [] (finC (.one .bool) κ)
  =f123.b L N (f82 L N m) (f123 L N m) (f90_2 L N m) (f129_2 L N m) (fun a0=>κ (.tv .bool a0)) x0:=by kernel_rfl
theorem f90_2.b_eq {R:Type} (L N m:Nat) (κ:AV→Option R) (x0:LT):
  evBody (E82 L N m) (evCallI (E82 L N m) 0 1000) 1000 90 Tryz.f90 [(.tv (.sl (.st 1)) x0),(.fn 123 [])] [] [] (finC (.one .bool) κ)
  =f90_2.b L N (f82 L N m) (f123 L N m) (f90_2 L N m) (f129_2 L N m) (fun a0=>κ (.tv .bool a0)) x0:=by kernel_rfl
noncomputable def f129_2.c0:Code:=loopAt 0 (codeOf Tryz.f129)
def f129_2.X0_e0 {R:Type} (κ:KX R):=κ (.exit 0) f129_2.T0_e0 f129_2.H0_e0
def f129_2.X0_r {R:Type} (κ:KX R):=fun z4=>κ .ret (f129_2.T0_r z4) (f129_2.H0_r z4)
def f129_2.R0 {R:Type} (rec:KT R):=fun s0 s1 s2=>rec (f129_2.T0 s0 s1 s2) (f129_2.H0 s0 s1 s2)
theorem f129_2.s0_eq {R:Type} (L N m:Nat) (κ:KX R) (rec:KT R) (s0:LT) (s1:Int) (s2:Int):
  evRd (E82 L N m) (evCallI (E82 L N m) 0 1000) 1000 129 19 0 f129_2.c0 κ rec (f129_2.T0 s0 s1 s2) (f129_2.H0 s0 s1 s2)
  =f129_2.s0 L N (f82 L N m) (f123 L N m) (f90_2 L N m) (f129_2 L N m) (f129_2.X0_e0 κ) (f129_2.X0_r κ) (f129_2.R0 rec) s0 s1 s2:=by kernel_rfl
theorem f129_2.l0_eq {R:Type} (L N m:Nat) (κ:KX R):∀(n:Nat) (s0:LT) (s1:Int) (s2:Int),
  evLp (E82 L N m) (evCallI (E82 L N m) 0 1000) 1000 129 19 0 f129_2.c0 κ n (f129_2.T0 s0 s1 s2) (f129_2.H0 s0 s1 s2)
  =f129_2.l0 L N (f82 L N m) (f123 L N m) (f90_2 L N m) (f129_2 L N m) (f129_2.X0_e0 κ) (f129_2.X0_r κ) n s0 s1 s2:=by
 intro n
 induction n with
 |zero=>intros;rfl
 |succ n ih=>
  intro s0 s1 s2
  rw [evLp_succ,f129_2.s0_eq]
  delta f129_2.R0
  simp only [ih]
  rfl
theorem f129_2.p0_e0_eq {R:Type} (L N m:Nat) (κ:AV→Option R):
  (contAt (E82 L N m) (evCallI (E82 L N m) 0 1000) 1000 129 19 0 (codeOf Tryz.f129) (finK (E82 L N m) 1000 Tryz.f129 (finC (.one i64) κ))) (.exit 0) f129_2.T0_e0 f129_2.H0_e0
  =f129_2.p0_e0 L N (f82 L N m) (f123 L N m) (f90_2 L N m) (f129_2 L N m) (fun a0=>κ (.tv i64 a0)):=by kernel_rfl
theorem f129_2.p0_r_eq {R:Type} (L N m:Nat) (κ:AV→Option R) (z4:Int):
  (contAt (E82 L N m) (evCallI (E82 L N m) 0 1000) 1000 129 19 0 (codeOf Tryz.f129) (finK (E82 L N m) 1000 Tryz.f129 (finC (.one i64) κ))) .ret (f129_2.T0_r z4) (f129_2.H0_r z4)
  =f129_2.p0_r L N (f82 L N m) (f123 L N m) (f90_2 L N m) (f129_2 L N m) (fun a0=>κ (.tv i64 a0)) z4:=by kernel_rfl
theorem f129_2.b_eq {R:Type} (L N m:Nat) (κ:AV→Option R) (x0:LT):
  evBody (E82 L N m) (evCallI (E82 L N m) 0 1000) 1000 129 Tryz.f129 [(.tv (.sl (.st 1)) x0),(.fn 123 [])] [] [] (finC (.one i64) κ)
  =f129_2.b L N (f82 L N m) (f123 L N m) (f90_2 L N m) (f129_2 L N m) (fun a0=>κ (.tv i64 a0)) x0:=by
 refine Eq.trans (b:=f129_2.b' L N (f82 L N m) (f123 L N m) (f90_2 L N m) (f129_2 L N m) (fun a0=>κ (.tv i64 a0)) (fun s0 s1 s2=>evLp (E82 L N m) (evCallI (E82 L N m) 0 1000) 1000 129 19 0 f129_2.c0 (contAt (E82 L N m) (evCallI (E82 L N m) 0 1000) 1000 129 19 0 (codeOf Tryz.f129) (finK (E82 L N m) 1000 Tryz.f129 (finC (.one i64) κ))) L (f129_2.T0 s0 s1 s2) (f129_2.H0 s0 s1 s2)) x0) (by kernel_rfl) ?_
 unfold f129_2.b
 simp only [f129_2.l0_eq]
 delta f129_2.X0_e0 f129_2.X0_r
 simp only [f129_2.p0_e0_eq,f129_2.p0_r_eq]
theorem f82.ok (L N m:Nat) (hΦ:TellsOk Tryz.prog (Φ82s L N m)):EntOk Tryz.prog 82 (f82.ent L N (m+1)):=entRo_ok (E:=(E82 L N m)) (dep:=1000) (f:=Tryz.f82) (sound_of hΦ) okP (callI_sound (sound_of hΦ) okP 0 1000) rfl rfl fun d _ hy=>(f82.b_eq L N m (unR (.one .bool)) d.1).trans (Eq.trans (b:=f82.b L N (f82 L N m) (f123 L N m) (f90_2 L N m) (f129_2 L N m) some d.1) (by kernel_rfl) hy)
theorem f123.ok (L N m:Nat) (hΦ:TellsOk Tryz.prog (Φ82s L N m)):EntOk Tryz.prog 123 (f123.ent L N (m+1)):=entRo_ok (E:=(E82 L N m)) (dep:=1000) (f:=Tryz.f123) (sound_of hΦ) okP (callI_sound (sound_of hΦ) okP 0 1000) rfl rfl fun d _ hy=>(f123.b_eq L N m (unR (.one .bool)) d.1).trans (Eq.trans (b:=f123.b L N (f82 L N m) (f123 L N m) (f90_2 L N m) (f129_2 L N m) some d.1) (by kernel_rfl) hy)
theorem f90_2.ok (L N m:Nat) (hΦ:TellsOk Tryz.prog (Φ82s L N m)):EntOkO Tryz.prog 90 (f90_2.ent L N (m+1)):=entRf_ok (E:=(E82 L N m)) (dep:=1000) (f:=Tryz.f90) (sound_of hΦ) okP (callI_sound (sound_of hΦ) okP 0 1000) rfl rfl fun d _ hy=>(f90_2.b_eq L N m (unR (.one .bool)) d.1).trans (Eq.trans (b:=f90_2.b L N (f82 L N m) (f123 L N m) (f90_2 L N m) (f129_2 L N m) some d.1) (by kernel_rfl) hy)
theorem f129_2.ok (L N m:Nat) (hΦ:TellsOk Tryz.prog (Φ82s L N m)):EntOkO Tryz.prog 129 (f129_2.ent L N (m+1)):=entRf_ok (E:=(E82 L N m)) (dep:=1000) (f:=Tryz.f129) (sound_of hΦ) okP (callI_sound (sound_of hΦ) okP 0 1000) rfl rfl fun d _ hy=>(f129_2.b_eq L N m (unR (.one i64)) d.1).trans (Eq.trans (b:=f129_2.b L N (f82 L N m) (f123 L N m) (f90_2 L N m) (f129_2 L N m) some d.1) (by kernel_rfl) hy)
theorem Φ82s_ok (L N:Nat):∀m,TellsOk Tryz.prog (Φ82s L N m):=by
 intro m
 induction m with
 |zero=>exact (addO_ok (addO_ok (addT_ok (addT_ok (Φ122_ok L N) (entRo_no fun _=>rfl)) (entRo_no fun _=>rfl)) (entRf_no fun _=>rfl)) (entRf_no fun _=>rfl))
 |succ m ih=>exact (addO_ok (addO_ok (addT_ok (addT_ok (Φ122_ok L N) (f82.ok L N m ih)) (f123.ok L N m ih)) (f90_2.ok L N m ih)) (f129_2.ok L N m ih))
def Φ82 (L N:Nat):Tells:=(addO (addO (addT (addT (Φ122 L N) 82 (f82.ent L N N)) 123 (f123.ent L N N)) 90 (f90_2.ent L N N)) 129 (f129_2.ent L N N))
theorem Φ82_ok (L N:Nat):TellsOk Tryz.prog (Φ82 L N):=Φ82s_ok L N N
def f50.b' {R:Type} (L N:Nat) (k:Bool→Option R) (x0:Tree):Option R:=
 (f81 L N N (Tree.mk x0.op x0.n x0.parts) (24:Int)).bind fun y0=>
 bif (decide (y0≤(24:Int))) then
  (f82 L N N (Tree.mk x0.op x0.n x0.parts)).bind fun y1=>
  k y1
 else k false
def f50.b {R:Type} (L N:Nat) (k:Bool→Option R) (x0:Tree):Option R:=
 f50.b' L N k x0
def f50 (L N:Nat) (x0:Tree):Option (Bool):=f50.b L N some x0
def f50.ent (L N:Nat):=entRo [(.st 1)] (.one .bool) fun d=>f50 L N d.1
noncomputable def E50 (L N:Nat):Env:={P:=Tryz.prog,ty:=tyOf,Φ:=(Φ82 L N),inl:=inlT,live:=lives,liveX:=livesX,L:=L,dp:=none,prom:=promT,heal:=healT,ren:=renT}
theorem f50.b_eq {R:Type} (L N:Nat) (κ:AV→Option R) (x0:Tree):
  evBody (E50 L N) (evCallI (E50 L N) 0 1000) 1000 50 Tryz.f50 [(.tv (.st 1) x0)] [] [] (finC (.one .bool) κ)
  =f50.b L N (fun a0=>κ (.tv .bool a0)) x0:=by kernel_rfl
theorem f50.ok (L N:Nat) (hΦ:TellsOk Tryz.prog ((Φ82 L N))):EntOk Tryz.prog 50 (f50.ent L N):=entRo_ok (E:=(E50 L N)) (dep:=1000) (f:=Tryz.f50) (sound_of hΦ) okP (callI_sound (sound_of hΦ) okP 0 1000) rfl rfl fun d _ hy=>(f50.b_eq L N (unR (.one .bool)) d.1).trans (Eq.trans (b:=f50.b L N some d.1) (by kernel_rfl) hy)
def Φ50 (L N:Nat):Tells:=(addT (Φ82 L N) 50 (f50.ent L N))
theorem Φ50_ok (L N:Nat):TellsOk Tryz.prog (Φ50 L N):=addT_ok (Φ82_ok L N) (f50.ok L N (Φ82_ok L N))
def f141.b' {R:Type} (L N:Nat) (self141:Tree→Int→Option (Bool)) (self90_3:LT→Int→Option (Bool)) (self129_3:LT→Int→Option (Int)) (self175_1:Tree→Int→Option (Bool)) (k:Bool→Option R) (x0:Tree) (x1:Int):Option R:=
 bif (x0.op !=(5:Int)) then
  (self90_3 x0.parts x1).bind fun y0=>
  k (!y0)
 else bif (decide (x0.n<x1)) then
  (self90_3 x0.parts x1).bind fun y1=>
  k (!y1)
 else k false
def f141.b {R:Type} (L N:Nat) (self141:Tree→Int→Option (Bool)) (self90_3:LT→Int→Option (Bool)) (self129_3:LT→Int→Option (Int)) (self175_1:Tree→Int→Option (Bool)) (k:Bool→Option R) (x0:Tree) (x1:Int):Option R:=
 f141.b' L N self141 self90_3 self129_3 self175_1 k x0 x1
def f90_3.b' {R:Type} (L N:Nat) (self141:Tree→Int→Option (Bool)) (self90_3:LT→Int→Option (Bool)) (self129_3:LT→Int→Option (Int)) (self175_1:Tree→Int→Option (Bool)) (k:Bool→Option R) (x0:LT) (x1:Int):Option R:=
 (self129_3 x0 x1).bind fun y0=>
 k (decide (y0≥(0:Int)))
def f90_3.b {R:Type} (L N:Nat) (self141:Tree→Int→Option (Bool)) (self90_3:LT→Int→Option (Bool)) (self129_3:LT→Int→Option (Int)) (self175_1:Tree→Int→Option (Bool)) (k:Bool→Option R) (x0:LT) (x1:Int):Option R:=
 f90_3.b' L N self141 self90_3 self129_3 self175_1 k x0 x1
def f129_3.s0' {R:Type} (L N:Nat) (self141:Tree→Int→Option (Bool)) (self90_3:LT→Int→Option (Bool)) (self129_3:LT→Int→Option (Int)) (self175_1:Tree→Int→Option (Bool)) (k0_e0:Option R) (k0_r:Int→Option R) (rec0:LT→Int→Int→Int→Option R) (s0:LT) (s1:Int) (s2:Int) (s3:Int):Option R:=
 bif (decide (s3<s2)) then
  bif (decide (0≤s3)&&decide (s3<(s0.length:Int))) then
   (self175_1 (listAt s0 (Ty.dflt (.st 1)) s3.toNat) s1).bind fun y4=>
   bif y4 then
    k0_r s3
   else rec0 s0 s1 s2 (wi (s3+(1:Int)))
  else none
 else k0_e0
def f129_3.s0 {R:Type} (L N:Nat) (self141:Tree→Int→Option (Bool)) (self90_3:LT→Int→Option (Bool)) (self129_3:LT→Int→Option (Int)) (self175_1:Tree→Int→Option (Bool)) (k0_e0:Option R) (k0_r:Int→Option R) (rec0:LT→Int→Int→Int→Option R) (s0:LT) (s1:Int) (s2:Int) (s3:Int):Option R:=
 f129_3.s0' L N self141 self90_3 self129_3 self175_1 k0_e0 k0_r rec0 s0 s1 s2 s3
def f129_3.l0 {R:Type} (L N:Nat) (self141:Tree→Int→Option (Bool)) (self90_3:LT→Int→Option (Bool)) (self129_3:LT→Int→Option (Int)) (self175_1:Tree→Int→Option (Bool)) (k0_e0:Option R) (k0_r:Int→Option R):Nat→LT→Int→Int→Int→Option R
 |0,_,_,_,_=>none
 |n+1,s0,s1,s2,s3=>f129_3.s0 L N self141 self90_3 self129_3 self175_1 k0_e0 k0_r (f129_3.l0 L N self141 self90_3 self129_3 self175_1 k0_e0 k0_r n) s0 s1 s2 s3
def f129_3.T0 (s0:LT) (s1:Int) (s2:Int) (s3:Int):T:=mkT 19 [(0,(.tv (.sl (.st 1)) s0)),(1,(.fn 175 [(.imp i64 s1 0)])),(7,(.tv i64 s2)),(8,(.tv i64 s3))]
def f129_3.H0 (s0:LT) (s1:Int) (s2:Int) (s3:Int):H:=[]
def f129_3.T0_e0:T:=mkT 19 []
def f129_3.H0_e0:H:=[]
def f129_3.T0_r (z5:Int):T:=mkT 19 [(4,(.tv i64 z5))]
def f129_3.H0_r (z5:Int):H:=[]
def f129_3.p0_e0' {R:Type} (L N:Nat) (self141:Tree→Int→Option (Bool)) (self90_3:LT→Int→Option (Bool)) (self129_3:LT→Int→Option (Int)) (self175_1:Tree→Int→Option (Bool)) (k:Int→Option R):Option R:=
 k (-1:Int)
def f129_3.p0_e0 {R:Type} (L N:Nat) (self141:Tree→Int→Option (Bool)) (self90_3:LT→Int→Option (Bool)) (self129_3:LT→Int→Option (Int)) (self175_1:Tree→Int→Option (Bool)) (k:Int→Option R):Option R:=
 f129_3.p0_e0' L N self141 self90_3 self129_3 self175_1 k
def f129_3.p0_r' {R:Type} (L N:Nat) (self141:Tree→Int→Option (Bool)) (self90_3:LT→Int→Option (Bool)) (self129_3:LT→Int→Option (Int)) (self175_1:Tree→Int→Option (Bool)) (k:Int→Option R) (z5:Int):Option R:=
 k z5
def f129_3.p0_r {R:Type} (L N:Nat) (self141:Tree→Int→Option (Bool)) (self90_3:LT→Int→Option (Bool)) (self129_3:LT→Int→Option (Int)) (self175_1:Tree→Int→Option (Bool)) (k:Int→Option R) (z5:Int):Option R:=
 f129_3.p0_r' L N self141 self90_3 self129_3 self175_1 k z5
def f129_3.b' {R:Type} (L N:Nat) (self141:Tree→Int→Option (Bool)) (self90_3:LT→Int→Option (Bool)) (self129_3:LT→Int→Option (Int)) (self175_1:Tree→Int→Option (Bool)) (k:Int→Option R) (w0:LT→Int→Int→Int→Option R) (x0:LT) (x1:Int):Option R:=
 w0 x0 x1 (x0.length:Int) (0:Int)
def f129_3.b {R:Type} (L N:Nat) (self141:Tree→Int→Option (Bool)) (self90_3:LT→Int→Option (Bool)) (self129_3:LT→Int→Option (Int)) (self175_1:Tree→Int→Option (Bool)) (k:Int→Option R) (x0:LT) (x1:Int):Option R:=
 f129_3.b' L N self141 self90_3 self129_3 self175_1 k (fun s0 s1 s2 s3=>f129_3.l0 L N self141 self90_3 self129_3 self175_1 (f129_3.p0_e0 L N self141 self90_3 self129_3 self175_1 k) (fun z5=>f129_3.p0_r L N self141 self90_3 self129_3 self175_1 k z5) L s0 s1 s2 s3) x0 x1
def f175_1.b' {R:Type} (L N:Nat) (self141:Tree→Int→Option (Bool)) (self90_3:LT→Int→Option (Bool)) (self129_3:LT→Int→Option (Int)) (self175_1:Tree→Int→Option (Bool)) (k:Bool→Option R) (x0:Tree) (x1:Int):Option R:=
 (self141 (Tree.mk x0.op x0.n x0.parts) x1).bind fun y0=>
 k (!y0)
def f175_1.b {R:Type} (L N:Nat) (self141:Tree→Int→Option (Bool)) (self90_3:LT→Int→Option (Bool)) (self129_3:LT→Int→Option (Int)) (self175_1:Tree→Int→Option (Bool)) (k:Bool→Option R) (x0:Tree) (x1:Int):Option R:=
 f175_1.b' L N self141 self90_3 self129_3 self175_1 k x0 x1
mutual
def f141 (L N:Nat):Nat→Tree→Int→Option (Bool)
 |0,_,_=>none
 |n+1,x0,x1=>f141.b L N (f141 L N n) (f90_3 L N n) (f129_3 L N n) (f175_1 L N n) some x0 x1
def f90_3 (L N:Nat):Nat→LT→Int→Option (Bool)
 |0,_,_=>none
 |n+1,x0,x1=>f90_3.b L N (f141 L N n) (f90_3 L N n) (f129_3 L N n) (f175_1 L N n) some x0 x1
def f129_3 (L N:Nat):Nat→LT→Int→Option (Int)
 |0,_,_=>none
 |n+1,x0,x1=>f129_3.b L N (f141 L N n) (f90_3 L N n) (f129_3 L N n) (f175_1 L N n) some x0 x1
def f175_1 (L N:Nat):Nat→Tree→Int→Option (Bool)
 |0,_,_=>none
 |n+1,x0,x1=>f175_1.b L N (f141 L N n) (f90_3 L N n) (f129_3 L N n) (f175_1 L N n) some x0 x1
end
def f141.ent (L N m:Nat):=entRo [(.st 1),i64] (.one .bool) fun d=>f141 L N m d.1 d.2.1
def f90_3.ent (L N m:Nat):=entRf [(.dat (.sl (.st 1))),(.fn 175 [(.imp i64 0)])] (.one .bool) fun d=>f90_3 L N m d.1 d.2.1.1
def f129_3.ent (L N m:Nat):=entRf [(.dat (.sl (.st 1))),(.fn 175 [(.imp i64 0)])] (.one i64) fun d=>f129_3 L N m d.1 d.2.1.1
def f175_1.ent (L N m:Nat):=entRf [(.dat (.st 1)),(.imp i64 0)] (.one .bool) fun d=>f175_1 L N m d.1 d.2.1
def Φ141s (L N m:Nat):Tells:=(addO (addO (addO (addT (Φ50 L N) 141 (f141.ent L N m)) 90 (f90_3.ent L N m)) 129 (f129_3.ent L N m)) 175 (f175_1.ent L N m))
noncomputable def E141 (L N m:Nat):Env:={P:=Tryz.prog,ty:=tyOf,Φ:=Φ141s L N m,inl:=inlT,live:=lives,liveX:=livesX,L:=L,dp:=none,prom:=promT,heal:=healT,ren:=renT}
theorem f141.b_eq {R:Type} (L N m:Nat) (κ:AV→Option R) (x0:Tree) (x1:Int):
  evBody (E141 L N m) (evCallI (E141 L N m) 0 1000) 1000 141 Tryz.f141 [(.tv (.st 1) x0),(.tv i64 x1)] [] [] (finC (.one .bool) κ)
  =f141.b L N (f141 L N m) (f90_3 L N m) (f129_3 L N m) (f175_1 L N m) (fun a0=>κ (.tv .bool a0)) x0 x1:=by kernel_rfl
theorem f90_3.b_eq {R:Type} (L N m:Nat) (κ:AV→Option R) (x0:LT) (x1:Int):
  evBody (E141 L N m) (evCallI (E141 L N m) 0 1000) 1000 90 Tryz.f90 [(.tv (.sl (.st 1)) x0),(.fn 175 [(.imp i64 x1 0)])] [] [] (finC (.one .bool) κ)
  =f90_3.b L N (f141 L N m) (f90_3 L N m) (f129_3 L N m) (f175_1 L N m) (fun a0=>κ (.tv .bool a0)) x0 x1:=by kernel_rfl
noncomputable def f129_3.c0:Code:=loopAt 0 (codeOf Tryz.f129)
def f129_3.X0_e0 {R:Type} (κ:KX R):=κ (.exit 0) f129_3.T0_e0 f129_3.H0_e0
def f129_3.X0_r {R:Type} (κ:KX R):=fun z5=>κ .ret (f129_3.T0_r z5) (f129_3.H0_r z5)
def f129_3.R0 {R:Type} (rec:KT R):=fun s0 s1 s2 s3=>rec (f129_3.T0 s0 s1 s2 s3) (f129_3.H0 s0 s1 s2 s3)
theorem f129_3.s0_eq {R:Type} (L N m:Nat) (κ:KX R) (rec:KT R) (s0:LT) (s1:Int) (s2:Int) (s3:Int):
  evRd (E141 L N m) (evCallI (E141 L N m) 0 1000) 1000 129 19 0 f129_3.c0 κ rec (f129_3.T0 s0 s1 s2 s3) (f129_3.H0 s0 s1 s2 s3)
  =f129_3.s0 L N (f141 L N m) (f90_3 L N m) (f129_3 L N m) (f175_1 L N m) (f129_3.X0_e0 κ) (f129_3.X0_r κ) (f129_3.R0 rec) s0 s1 s2 s3:=by kernel_rfl
theorem f129_3.l0_eq {R:Type} (L N m:Nat) (κ:KX R):∀(n:Nat) (s0:LT) (s1:Int) (s2:Int) (s3:Int),
  evLp (E141 L N m) (evCallI (E141 L N m) 0 1000) 1000 129 19 0 f129_3.c0 κ n (f129_3.T0 s0 s1 s2 s3) (f129_3.H0 s0 s1 s2 s3)
  =f129_3.l0 L N (f141 L N m) (f90_3 L N m) (f129_3 L N m) (f175_1 L N m) (f129_3.X0_e0 κ) (f129_3.X0_r κ) n s0 s1 s2 s3:=by
 intro n
 induction n with
 |zero=>intros;rfl
 |succ n ih=>
  intro s0 s1 s2 s3
  rw [evLp_succ,f129_3.s0_eq]
  delta f129_3.R0
  simp only [ih]
  rfl
theorem f129_3.p0_e0_eq {R:Type} (L N m:Nat) (κ:AV→Option R):
  (contAt (E141 L N m) (evCallI (E141 L N m) 0 1000) 1000 129 19 0 (codeOf Tryz.f129) (finK (E141 L N m) 1000 Tryz.f129 (finC (.one i64) κ))) (.exit 0) f129_3.T0_e0 f129_3.H0_e0
  =f129_3.p0_e0 L N (f141 L N m) (f90_3 L N m) (f129_3 L N m) (f175_1 L N m) (fun a0=>κ (.tv i64 a0)):=by kernel_rfl
theorem f129_3.p0_r_eq {R:Type} (L N m:Nat) (κ:AV→Option R) (z5:Int):
  (contAt (E141 L N m) (evCallI (E141 L N m) 0 1000) 1000 129 19 0 (codeOf Tryz.f129) (finK (E141 L N m) 1000 Tryz.f129 (finC (.one i64) κ))) .ret (f129_3.T0_r z5) (f129_3.H0_r z5)
  =f129_3.p0_r L N (f141 L N m) (f90_3 L N m) (f129_3 L N m) (f175_1 L N m) (fun a0=>κ (.tv i64 a0)) z5:=by kernel_rfl
theorem f129_3.b_eq {R:Type} (L N m:Nat) (κ:AV→Option R) (x0:LT) (x1:Int):
  evBody (E141 L N m) (evCallI (E141 L N m) 0 1000) 1000 129 Tryz.f129 [(.tv (.sl (.st 1)) x0),(.fn 175 [(.imp i64 x1 0)])] [] [] (finC (.one i64) κ)
  =f129_3.b L N (f141 L N m) (f90_3 L N m) (f129_3 L N m) (f175_1 L N m) (fun a0=>κ (.tv i64 a0)) x0 x1:=by
 refine Eq.trans (b:=f129_3.b' L N (f141 L N m) (f90_3 L N m) (f129_3 L N m) (f175_1 L N m) (fun a0=>κ (.tv i64 a0)) (fun s0 s1 s2 s3=>evLp (E141 L N m) (evCallI (E141 L N m) 0 1000) 1000 129 19 0 f129_3.c0 (contAt (E141 L N m) (evCallI (E141 L N m) 0 1000) 1000 129 19 0 (codeOf Tryz.f129) (finK (E141 L N m) 1000 Tryz.f129 (finC (.one i64) κ))) L (f129_3.T0 s0 s1 s2 s3) (f129_3.H0 s0 s1 s2 s3)) x0 x1) (by kernel_rfl) ?_
 unfold f129_3.b
 simp only [f129_3.l0_eq]
 delta f129_3.X0_e0 f129_3.X0_r
 simp only [f129_3.p0_e0_eq,f129_3.p0_r_eq]
theorem f175_1.b_eq {R:Type} (L N m:Nat) (κ:AV→Option R) (x0:Tree) (x1:Int):
  evBody (E141 L N m) (evCallI (E141 L N m) 0 1000) 1000 175 Tryz.f175 [(.tv (.st 1) x0),(.imp i64 x1 0)] [] [] (finC (.one .bool) κ)
  =f175_1.b L N (f141 L N m) (f90_3 L N m) (f129_3 L N m) (f175_1 L N m) (fun a0=>κ (.tv .bool a0)) x0 x1:=by kernel_rfl
theorem f141.ok (L N m:Nat) (hΦ:TellsOk Tryz.prog (Φ141s L N m)):EntOk Tryz.prog 141 (f141.ent L N (m+1)):=entRo_ok (E:=(E141 L N m)) (dep:=1000) (f:=Tryz.f141) (sound_of hΦ) okP (callI_sound (sound_of hΦ) okP 0 1000) rfl rfl fun d _ hy=>(f141.b_eq L N m (unR (.one .bool)) d.1 d.2.1).trans (Eq.trans (b:=f141.b L N (f141 L N m) (f90_3 L N m) (f129_3 L N m) (f175_1 L N m) some d.1 d.2.1) (by kernel_rfl) hy)
theorem f90_3.ok (L N m:Nat) (hΦ:TellsOk Tryz.prog (Φ141s L N m)):EntOkO Tryz.prog 90 (f90_3.ent L N (m+1)):=entRf_ok (E:=(E141 L N m)) (dep:=1000) (f:=Tryz.f90) (sound_of hΦ) okP (callI_sound (sound_of hΦ) okP 0 1000) rfl rfl fun d _ hy=>(f90_3.b_eq L N m (unR (.one .bool)) d.1 d.2.1.1).trans (Eq.trans (b:=f90_3.b L N (f141 L N m) (f90_3 L N m) (f129_3 L N m) (f175_1 L N m) some d.1 d.2.1.1) (by kernel_rfl) hy)
theorem f129_3.ok (L N m:Nat) (hΦ:TellsOk Tryz.prog (Φ141s L N m)):EntOkO Tryz.prog 129 (f129_3.ent L N (m+1)):=entRf_ok (E:=(E141 L N m)) (dep:=1000) (f:=Tryz.f129) (sound_of hΦ) okP (callI_sound (sound_of hΦ) okP 0 1000) rfl rfl fun d _ hy=>(f129_3.b_eq L N m (unR (.one i64)) d.1 d.2.1.1).trans (Eq.trans (b:=f129_3.b L N (f141 L N m) (f90_3 L N m) (f129_3 L N m) (f175_1 L N m) some d.1 d.2.1.1) (by kernel_rfl) hy)
theorem f175_1.ok (L N m:Nat) (hΦ:TellsOk Tryz.prog (Φ141s L N m)):EntOkO Tryz.prog 175 (f175_1.ent L N (m+1)):=entRf_ok (E:=(E141 L N m)) (dep:=1000) (f:=Tryz.f175) (sound_of hΦ) okP (callI_sound (sound_of hΦ) okP 0 1000) rfl rfl fun d _ hy=>(f175_1.b_eq L N m (unR (.one .bool)) d.1 d.2.1).trans (Eq.trans (b:=f175_1.b L N (f141 L N m) (f90_3 L N m) (f129_3 L N m) (f175_1 L N m) some d.1 d.2.1) (by kernel_rfl) hy)
theorem Φ141s_ok (L N:Nat):∀m,TellsOk Tryz.prog (Φ141s L N m):=by
 intro m
 induction m with
 |zero=>exact (addO_ok (addO_ok (addO_ok (addT_ok (Φ50_ok L N) (entRo_no fun _=>rfl)) (entRf_no fun _=>rfl)) (entRf_no fun _=>rfl)) (entRf_no fun _=>rfl))
 |succ m ih=>exact (addO_ok (addO_ok (addO_ok (addT_ok (Φ50_ok L N) (f141.ok L N m ih)) (f90_3.ok L N m ih)) (f129_3.ok L N m ih)) (f175_1.ok L N m ih))
def Φ141 (L N:Nat):Tells:=(addO (addO (addO (addT (Φ50 L N) 141 (f141.ent L N N)) 90 (f90_3.ent L N N)) 129 (f129_3.ent L N N)) 175 (f175_1.ent L N N))
theorem Φ141_ok (L N:Nat):TellsOk Tryz.prog (Φ141 L N):=Φ141s_ok L N N
def f103.b' {R:Type} (L N:Nat) (k:Bool→Option R) (x0:Tree) (x1:Int):Option R:=
 bif (decide (x1≥(0:Int))) then
  bif (decide (x1≤(3:Int))) then
   (f50 L N (Tree.mk x0.op x0.n x0.parts)).bind fun y0=>
   bif y0 then
    (f141 L N N (Tree.mk x0.op x0.n x0.parts) x1).bind fun y1=>
    k y1
   else k false
  else k false
 else k false
def f103.b {R:Type} (L N:Nat) (k:Bool→Option R) (x0:Tree) (x1:Int):Option R:=
 f103.b' L N k x0 x1
def f103 (L N:Nat) (x0:Tree) (x1:Int):Option (Bool):=f103.b L N some x0 x1
def f103.ent (L N:Nat):=entRo [(.st 1),i64] (.one .bool) fun d=>f103 L N d.1 d.2.1
noncomputable def E103 (L N:Nat):Env:={P:=Tryz.prog,ty:=tyOf,Φ:=(Φ141 L N),inl:=inlT,live:=lives,liveX:=livesX,L:=L,dp:=none,prom:=promT,heal:=healT,ren:=renT}
theorem f103.b_eq {R:Type} (L N:Nat) (κ:AV→Option R) (x0:Tree) (x1:Int):
  evBody (E103 L N) (evCallI (E103 L N) 0 1000) 1000 103 Tryz.f103 [(.tv (.st 1) x0),(.tv i64 x1)] [] [] (finC (.one .bool) κ)
  =f103.b L N (fun a0=>κ (.tv .bool a0)) x0 x1:=by kernel_rfl
theorem f103.ok (L N:Nat) (hΦ:TellsOk Tryz.prog ((Φ141 L N))):EntOk Tryz.prog 103 (f103.ent L N):=entRo_ok (E:=(E103 L N)) (dep:=1000) (f:=Tryz.f103) (sound_of hΦ) okP (callI_sound (sound_of hΦ) okP 0 1000) rfl rfl fun d _ hy=>(f103.b_eq L N (unR (.one .bool)) d.1 d.2.1).trans (Eq.trans (b:=f103.b L N some d.1 d.2.1) (by kernel_rfl) hy)
def Φ103 (L N:Nat):Tells:=(addT (Φ141 L N) 103 (f103.ent L N))
theorem Φ103_ok (L N:Nat):TellsOk Tryz.prog (Φ103 L N):=addT_ok (Φ141_ok L N) (f103.ok L N (Φ141_ok L N))
def f140.b' {R:Type} (L N:Nat) (self140:Tree→Option (Bool)) (self90_4:LT→Option (Bool)) (self129_4:LT→Option (Int)) (k:Bool→Option R) (x0:Tree):Option R:=
 bif (x0.op==(5:Int)) then
  k true
 else bif (x0.op !=(1:Int)) then
  (self90_4 x0.parts).bind fun y0=>
  k y0
 else k false
def f140.b {R:Type} (L N:Nat) (self140:Tree→Option (Bool)) (self90_4:LT→Option (Bool)) (self129_4:LT→Option (Int)) (k:Bool→Option R) (x0:Tree):Option R:=
 f140.b' L N self140 self90_4 self129_4 k x0
def f90_4.b' {R:Type} (L N:Nat) (self140:Tree→Option (Bool)) (self90_4:LT→Option (Bool)) (self129_4:LT→Option (Int)) (k:Bool→Option R) (x0:LT):Option R:=
 (self129_4 x0).bind fun y0=>
 k (decide (y0≥(0:Int)))
def f90_4.b {R:Type} (L N:Nat) (self140:Tree→Option (Bool)) (self90_4:LT→Option (Bool)) (self129_4:LT→Option (Int)) (k:Bool→Option R) (x0:LT):Option R:=
 f90_4.b' L N self140 self90_4 self129_4 k x0
def f129_4.s0' {R:Type} (L N:Nat) (self140:Tree→Option (Bool)) (self90_4:LT→Option (Bool)) (self129_4:LT→Option (Int)) (k0_e0:Option R) (k0_r:Int→Option R) (rec0:LT→Int→Int→Option R) (s0:LT) (s1:Int) (s2:Int):Option R:=
 bif (decide (s2<s1)) then
  bif (decide (0≤s2)&&decide (s2<(s0.length:Int))) then
   (self140 (listAt s0 (Ty.dflt (.st 1)) s2.toNat)).bind fun y3=>
   bif y3 then
    k0_r s2
   else rec0 s0 s1 (wi (s2+(1:Int)))
  else none
 else k0_e0
def f129_4.s0 {R:Type} (L N:Nat) (self140:Tree→Option (Bool)) (self90_4:LT→Option (Bool)) (self129_4:LT→Option (Int)) (k0_e0:Option R) (k0_r:Int→Option R) (rec0:LT→Int→Int→Option R) (s0:LT) (s1:Int) (s2:Int):Option R:=
 f129_4.s0' L N self140 self90_4 self129_4 k0_e0 k0_r rec0 s0 s1 s2
def f129_4.l0 {R:Type} (L N:Nat) (self140:Tree→Option (Bool)) (self90_4:LT→Option (Bool)) (self129_4:LT→Option (Int)) (k0_e0:Option R) (k0_r:Int→Option R):Nat→LT→Int→Int→Option R
 |0,_,_,_=>none
 |n+1,s0,s1,s2=>f129_4.s0 L N self140 self90_4 self129_4 k0_e0 k0_r (f129_4.l0 L N self140 self90_4 self129_4 k0_e0 k0_r n) s0 s1 s2
def f129_4.T0 (s0:LT) (s1:Int) (s2:Int):T:=mkT 19 [(0,(.tv (.sl (.st 1)) s0)),(1,(.fn 140 [])),(7,(.tv i64 s1)),(8,(.tv i64 s2))]
def f129_4.H0 (s0:LT) (s1:Int) (s2:Int):H:=[]
def f129_4.T0_e0:T:=mkT 19 []
def f129_4.H0_e0:H:=[]
def f129_4.T0_r (z4:Int):T:=mkT 19 [(4,(.tv i64 z4))]
def f129_4.H0_r (z4:Int):H:=[]
def f129_4.p0_e0' {R:Type} (L N:Nat) (self140:Tree→Option (Bool)) (self90_4:LT→Option (Bool)) (self129_4:LT→Option (Int)) (k:Int→Option R):Option R:=
 k (-1:Int)
def f129_4.p0_e0 {R:Type} (L N:Nat) (self140:Tree→Option (Bool)) (self90_4:LT→Option (Bool)) (self129_4:LT→Option (Int)) (k:Int→Option R):Option R:=
 f129_4.p0_e0' L N self140 self90_4 self129_4 k
def f129_4.p0_r' {R:Type} (L N:Nat) (self140:Tree→Option (Bool)) (self90_4:LT→Option (Bool)) (self129_4:LT→Option (Int)) (k:Int→Option R) (z4:Int):Option R:=
 k z4
def f129_4.p0_r {R:Type} (L N:Nat) (self140:Tree→Option (Bool)) (self90_4:LT→Option (Bool)) (self129_4:LT→Option (Int)) (k:Int→Option R) (z4:Int):Option R:=
 f129_4.p0_r' L N self140 self90_4 self129_4 k z4
def f129_4.b' {R:Type} (L N:Nat) (self140:Tree→Option (Bool)) (self90_4:LT→Option (Bool)) (self129_4:LT→Option (Int)) (k:Int→Option R) (w0:LT→Int→Int→Option R) (x0:LT):Option R:=
 w0 x0 (x0.length:Int) (0:Int)
def f129_4.b {R:Type} (L N:Nat) (self140:Tree→Option (Bool)) (self90_4:LT→Option (Bool)) (self129_4:LT→Option (Int)) (k:Int→Option R) (x0:LT):Option R:=
 f129_4.b' L N self140 self90_4 self129_4 k (fun s0 s1 s2=>f129_4.l0 L N self140 self90_4 self129_4 (f129_4.p0_e0 L N self140 self90_4 self129_4 k) (fun z4=>f129_4.p0_r L N self140 self90_4 self129_4 k z4) L s0 s1 s2) x0
mutual
def f140 (L N:Nat):Nat→Tree→Option (Bool)
 |0,_=>none
 |n+1,x0=>f140.b L N (f140 L N n) (f90_4 L N n) (f129_4 L N n) some x0
def f90_4 (L N:Nat):Nat→LT→Option (Bool)
 |0,_=>none
 |n+1,x0=>f90_4.b L N (f140 L N n) (f90_4 L N n) (f129_4 L N n) some x0
def f129_4 (L N:Nat):Nat→LT→Option (Int)
 |0,_=>none
 |n+1,x0=>f129_4.b L N (f140 L N n) (f90_4 L N n) (f129_4 L N n) some x0
end
def f140.ent (L N m:Nat):=entRo [(.st 1)] (.one .bool) fun d=>f140 L N m d.1
def f90_4.ent (L N m:Nat):=entRf [(.dat (.sl (.st 1))),(.fn 140 [])] (.one .bool) fun d=>f90_4 L N m d.1
def f129_4.ent (L N m:Nat):=entRf [(.dat (.sl (.st 1))),(.fn 140 [])] (.one i64) fun d=>f129_4 L N m d.1
def Φ140s (L N m:Nat):Tells:=(addO (addO (addT (Φ103 L N) 140 (f140.ent L N m)) 90 (f90_4.ent L N m)) 129 (f129_4.ent L N m))
noncomputable def E140 (L N m:Nat):Env:={P:=Tryz.prog,ty:=tyOf,Φ:=Φ140s L N m,inl:=inlT,live:=lives,liveX:=livesX,L:=L,dp:=none,prom:=promT,heal:=healT,ren:=renT}
theorem f140.b_eq {R:Type} (L N m:Nat) (κ:AV→Option R) (x0:Tree):
  evBody (E140 L N m) (evCallI (E140 L N m) 0 1000) 1000 140 Tryz.f140 [(.tv (.st 1) x0)] [] [] (finC (.one .bool) κ)
  =f140.b L N (f140 L N m) (f90_4 L N m) (f129_4 L N m) (fun a0=>κ (.tv .bool a0)) x0:=by kernel_rfl
theorem f90_4.b_eq {R:Type} (L N m:Nat) (κ:AV→Option R) (x0:LT):
  evBody (E140 L N m) (evCallI (E140 L N m) 0 1000) 1000 90 Tryz.f90 [(.tv (.sl (.st 1)) x0),(.fn 140 [])] [] [] (finC (.one .bool) κ)
  =f90_4.b L N (f140 L N m) (f90_4 L N m) (f129_4 L N m) (fun a0=>κ (.tv .bool a0)) x0:=by kernel_rfl
noncomputable def f129_4.c0:Code:=loopAt 0 (codeOf Tryz.f129)
def f129_4.X0_e0 {R:Type} (κ:KX R):=κ (.exit 0) f129_4.T0_e0 f129_4.H0_e0
def f129_4.X0_r {R:Type} (κ:KX R):=fun z4=>κ .ret (f129_4.T0_r z4) (f129_4.H0_r z4)
def f129_4.R0 {R:Type} (rec:KT R):=fun s0 s1 s2=>rec (f129_4.T0 s0 s1 s2) (f129_4.H0 s0 s1 s2)
theorem f129_4.s0_eq {R:Type} (L N m:Nat) (κ:KX R) (rec:KT R) (s0:LT) (s1:Int) (s2:Int):
  evRd (E140 L N m) (evCallI (E140 L N m) 0 1000) 1000 129 19 0 f129_4.c0 κ rec (f129_4.T0 s0 s1 s2) (f129_4.H0 s0 s1 s2)
  =f129_4.s0 L N (f140 L N m) (f90_4 L N m) (f129_4 L N m) (f129_4.X0_e0 κ) (f129_4.X0_r κ) (f129_4.R0 rec) s0 s1 s2:=by kernel_rfl
theorem f129_4.l0_eq {R:Type} (L N m:Nat) (κ:KX R):∀(n:Nat) (s0:LT) (s1:Int) (s2:Int),
  evLp (E140 L N m) (evCallI (E140 L N m) 0 1000) 1000 129 19 0 f129_4.c0 κ n (f129_4.T0 s0 s1 s2) (f129_4.H0 s0 s1 s2)
  =f129_4.l0 L N (f140 L N m) (f90_4 L N m) (f129_4 L N m) (f129_4.X0_e0 κ) (f129_4.X0_r κ) n s0 s1 s2:=by
 intro n
 induction n with
 |zero=>intros;rfl
 |succ n ih=>
  intro s0 s1 s2
  rw [evLp_succ,f129_4.s0_eq]
  delta f129_4.R0
  simp only [ih]
  rfl
theorem f129_4.p0_e0_eq {R:Type} (L N m:Nat) (κ:AV→Option R):
  (contAt (E140 L N m) (evCallI (E140 L N m) 0 1000) 1000 129 19 0 (codeOf Tryz.f129) (finK (E140 L N m) 1000 Tryz.f129 (finC (.one i64) κ))) (.exit 0) f129_4.T0_e0 f129_4.H0_e0
  =f129_4.p0_e0 L N (f140 L N m) (f90_4 L N m) (f129_4 L N m) (fun a0=>κ (.tv i64 a0)):=by kernel_rfl
theorem f129_4.p0_r_eq {R:Type} (L N m:Nat) (κ:AV→Option R) (z4:Int):
  (contAt (E140 L N m) (evCallI (E140 L N m) 0 1000) 1000 129 19 0 (codeOf Tryz.f129) (finK (E140 L N m) 1000 Tryz.f129 (finC (.one i64) κ))) .ret (f129_4.T0_r z4) (f129_4.H0_r z4)
  =f129_4.p0_r L N (f140 L N m) (f90_4 L N m) (f129_4 L N m) (fun a0=>κ (.tv i64 a0)) z4:=by kernel_rfl
theorem f129_4.b_eq {R:Type} (L N m:Nat) (κ:AV→Option R) (x0:LT):
  evBody (E140 L N m) (evCallI (E140 L N m) 0 1000) 1000 129 Tryz.f129 [(.tv (.sl (.st 1)) x0),(.fn 140 [])] [] [] (finC (.one i64) κ)
  =f129_4.b L N (f140 L N m) (f90_4 L N m) (f129_4 L N m) (fun a0=>κ (.tv i64 a0)) x0:=by
 refine Eq.trans (b:=f129_4.b' L N (f140 L N m) (f90_4 L N m) (f129_4 L N m) (fun a0=>κ (.tv i64 a0)) (fun s0 s1 s2=>evLp (E140 L N m) (evCallI (E140 L N m) 0 1000) 1000 129 19 0 f129_4.c0 (contAt (E140 L N m) (evCallI (E140 L N m) 0 1000) 1000 129 19 0 (codeOf Tryz.f129) (finK (E140 L N m) 1000 Tryz.f129 (finC (.one i64) κ))) L (f129_4.T0 s0 s1 s2) (f129_4.H0 s0 s1 s2)) x0) (by kernel_rfl) ?_
 unfold f129_4.b
 simp only [f129_4.l0_eq]
 delta f129_4.X0_e0 f129_4.X0_r
 simp only [f129_4.p0_e0_eq,f129_4.p0_r_eq]
theorem f140.ok (L N m:Nat) (hΦ:TellsOk Tryz.prog (Φ140s L N m)):EntOk Tryz.prog 140 (f140.ent L N (m+1)):=entRo_ok (E:=(E140 L N m)) (dep:=1000) (f:=Tryz.f140) (sound_of hΦ) okP (callI_sound (sound_of hΦ) okP 0 1000) rfl rfl fun d _ hy=>(f140.b_eq L N m (unR (.one .bool)) d.1).trans (Eq.trans (b:=f140.b L N (f140 L N m) (f90_4 L N m) (f129_4 L N m) some d.1) (by kernel_rfl) hy)
theorem f90_4.ok (L N m:Nat) (hΦ:TellsOk Tryz.prog (Φ140s L N m)):EntOkO Tryz.prog 90 (f90_4.ent L N (m+1)):=entRf_ok (E:=(E140 L N m)) (dep:=1000) (f:=Tryz.f90) (sound_of hΦ) okP (callI_sound (sound_of hΦ) okP 0 1000) rfl rfl fun d _ hy=>(f90_4.b_eq L N m (unR (.one .bool)) d.1).trans (Eq.trans (b:=f90_4.b L N (f140 L N m) (f90_4 L N m) (f129_4 L N m) some d.1) (by kernel_rfl) hy)
theorem f129_4.ok (L N m:Nat) (hΦ:TellsOk Tryz.prog (Φ140s L N m)):EntOkO Tryz.prog 129 (f129_4.ent L N (m+1)):=entRf_ok (E:=(E140 L N m)) (dep:=1000) (f:=Tryz.f129) (sound_of hΦ) okP (callI_sound (sound_of hΦ) okP 0 1000) rfl rfl fun d _ hy=>(f129_4.b_eq L N m (unR (.one i64)) d.1).trans (Eq.trans (b:=f129_4.b L N (f140 L N m) (f90_4 L N m) (f129_4 L N m) some d.1) (by kernel_rfl) hy)
theorem Φ140s_ok (L N:Nat):∀m,TellsOk Tryz.prog (Φ140s L N m):=by
 intro m
 induction m with
 |zero=>exact (addO_ok (addO_ok (addT_ok (Φ103_ok L N) (entRo_no fun _=>rfl)) (entRf_no fun _=>rfl)) (entRf_no fun _=>rfl))
 |succ m ih=>exact (addO_ok (addO_ok (addT_ok (Φ103_ok L N) (f140.ok L N m ih)) (f90_4.ok L N m ih)) (f129_4.ok L N m ih))
def Φ140 (L N:Nat):Tells:=(addO (addO (addT (Φ103 L N) 140 (f140.ent L N N)) 90 (f90_4.ent L N N)) 129 (f129_4.ent L N N))
theorem Φ140_ok (L N:Nat):TellsOk Tryz.prog (Φ140 L N):=Φ140s_ok L N N
def f139_1.b' {R:Type} (L N:Nat) (k:Bool→Option R) (x0:Tree) (x1:LT):Option R:=
 (f103 L N (Tree.mk x0.op x0.n x0.parts) (x1.length:Int)).bind fun y0=>
 bif (!y0) then
  k true
 else (f140 L N N (Tree.mk x0.op x0.n x0.parts)).bind fun y1=>
 k y1
def f139_1.b {R:Type} (L N:Nat) (k:Bool→Option R) (x0:Tree) (x1:LT):Option R:=
 f139_1.b' L N k x0 x1
def f139_1 (L N:Nat) (x0:Tree) (x1:LT):Option (Bool):=f139_1.b L N some x0 x1
def f139_1.ent (L N:Nat):=entRf [(.dat (.st 1)),(.imp (.sl (.st 1)) 0)] (.one .bool) fun d=>f139_1 L N d.1 d.2.1
noncomputable def E139_1 (L N:Nat):Env:={P:=Tryz.prog,ty:=tyOf,Φ:=(Φ140 L N),inl:=inlT,live:=lives,liveX:=livesX,L:=L,dp:=none,prom:=promT,heal:=healT,ren:=renT}
theorem f139_1.b_eq {R:Type} (L N:Nat) (κ:AV→Option R) (x0:Tree) (x1:LT):
  evBody (E139_1 L N) (evCallI (E139_1 L N) 0 1000) 1000 139 Tryz.f139 [(.tv (.st 1) x0),(.imp (.sl (.st 1)) x1 0)] [] [] (finC (.one .bool) κ)
  =f139_1.b L N (fun a0=>κ (.tv .bool a0)) x0 x1:=by kernel_rfl
theorem f139_1.ok (L N:Nat) (hΦ:TellsOk Tryz.prog ((Φ140 L N))):EntOkO Tryz.prog 139 (f139_1.ent L N):=entRf_ok (E:=(E139_1 L N)) (dep:=1000) (f:=Tryz.f139) (sound_of hΦ) okP (callI_sound (sound_of hΦ) okP 0 1000) rfl rfl fun d _ hy=>(f139_1.b_eq L N (unR (.one .bool)) d.1 d.2.1).trans (Eq.trans (b:=f139_1.b L N some d.1 d.2.1) (by kernel_rfl) hy)
def Φ139_1 (L N:Nat):Tells:=(addO (Φ140 L N) 139 (f139_1.ent L N))
theorem Φ139_1_ok (L N:Nat):TellsOk Tryz.prog (Φ139_1 L N):=addO_ok (Φ140_ok L N) (f139_1.ok L N (Φ140_ok L N))
def f129_1.s0' {R:Type} (L N:Nat) (k0_e0:Option R) (k0_r:Int→Option R) (rec0:LT→LT→Int→Int→Option R) (s0:LT) (s1:LT) (s2:Int) (s3:Int):Option R:=
 bif (decide (s3<s2)) then
  bif (decide (0≤s3)&&decide (s3<(s0.length:Int))) then
   (f139_1 L N (listAt s0 (Ty.dflt (.st 1)) s3.toNat) s1).bind fun y4=>
   bif y4 then
    k0_r s3
   else rec0 s0 s1 s2 (wi (s3+(1:Int)))
  else none
 else k0_e0
def f129_1.s0 {R:Type} (L N:Nat) (k0_e0:Option R) (k0_r:Int→Option R) (rec0:LT→LT→Int→Int→Option R) (s0:LT) (s1:LT) (s2:Int) (s3:Int):Option R:=
 f129_1.s0' L N k0_e0 k0_r rec0 s0 s1 s2 s3
def f129_1.l0 {R:Type} (L N:Nat) (k0_e0:Option R) (k0_r:Int→Option R):Nat→LT→LT→Int→Int→Option R
 |0,_,_,_,_=>none
 |n+1,s0,s1,s2,s3=>f129_1.s0 L N k0_e0 k0_r (f129_1.l0 L N k0_e0 k0_r n) s0 s1 s2 s3
def f129_1.T0 (s0:LT) (s1:LT) (s2:Int) (s3:Int):T:=mkT 19 [(0,(.tv (.sl (.st 1)) s0)),(1,(.fn 139 [(.imp (.sl (.st 1)) s1 0)])),(7,(.tv i64 s2)),(8,(.tv i64 s3))]
def f129_1.H0 (s0:LT) (s1:LT) (s2:Int) (s3:Int):H:=[]
def f129_1.T0_e0:T:=mkT 19 []
def f129_1.H0_e0:H:=[]
def f129_1.T0_r (z5:Int):T:=mkT 19 [(4,(.tv i64 z5))]
def f129_1.H0_r (z5:Int):H:=[]
def f129_1.p0_e0' {R:Type} (L N:Nat) (k:Int→Option R):Option R:=
 k (-1:Int)
def f129_1.p0_e0 {R:Type} (L N:Nat) (k:Int→Option R):Option R:=
 f129_1.p0_e0' L N k
def f129_1.p0_r' {R:Type} (L N:Nat) (k:Int→Option R) (z5:Int):Option R:=
 k z5
def f129_1.p0_r {R:Type} (L N:Nat) (k:Int→Option R) (z5:Int):Option R:=
 f129_1.p0_r' L N k z5
def f129_1.b' {R:Type} (L N:Nat) (k:Int→Option R) (w0:LT→LT→Int→Int→Option R) (x0:LT) (x1:LT):Option R:=
 w0 x0 x1 (x0.length:Int) (0:Int)
def f129_1.b {R:Type} (L N:Nat) (k:Int→Option R) (x0:LT) (x1:LT):Option R:=
 f129_1.b' L N k (fun s0 s1 s2 s3=>f129_1.l0 L N (f129_1.p0_e0 L N k) (fun z5=>f129_1.p0_r L N k z5) L s0 s1 s2 s3) x0 x1
def f129_1 (L N:Nat) (x0:LT) (x1:LT):Option (Int):=f129_1.b L N some x0 x1
def f129_1.ent (L N:Nat):=entRf [(.dat (.sl (.st 1))),(.fn 139 [(.imp (.sl (.st 1)) 0)])] (.one i64) fun d=>f129_1 L N d.1 d.2.1.1
noncomputable def E129_1 (L N:Nat):Env:={P:=Tryz.prog,ty:=tyOf,Φ:=(Φ139_1 L N),inl:=inlT,live:=lives,liveX:=livesX,L:=L,dp:=none,prom:=promT,heal:=healT,ren:=renT}
noncomputable def f129_1.c0:Code:=loopAt 0 (codeOf Tryz.f129)
def f129_1.X0_e0 {R:Type} (κ:KX R):=κ (.exit 0) f129_1.T0_e0 f129_1.H0_e0
def f129_1.X0_r {R:Type} (κ:KX R):=fun z5=>κ .ret (f129_1.T0_r z5) (f129_1.H0_r z5)
def f129_1.R0 {R:Type} (rec:KT R):=fun s0 s1 s2 s3=>rec (f129_1.T0 s0 s1 s2 s3) (f129_1.H0 s0 s1 s2 s3)
theorem f129_1.s0_eq {R:Type} (L N:Nat) (κ:KX R) (rec:KT R) (s0:LT) (s1:LT) (s2:Int) (s3:Int):
  evRd (E129_1 L N) (evCallI (E129_1 L N) 0 1000) 1000 129 19 0 f129_1.c0 κ rec (f129_1.T0 s0 s1 s2 s3) (f129_1.H0 s0 s1 s2 s3)
  =f129_1.s0 L N (f129_1.X0_e0 κ) (f129_1.X0_r κ) (f129_1.R0 rec) s0 s1 s2 s3:=by kernel_rfl
theorem f129_1.l0_eq {R:Type} (L N:Nat) (κ:KX R):∀(n:Nat) (s0:LT) (s1:LT) (s2:Int) (s3:Int),
  evLp (E129_1 L N) (evCallI (E129_1 L N) 0 1000) 1000 129 19 0 f129_1.c0 κ n (f129_1.T0 s0 s1 s2 s3) (f129_1.H0 s0 s1 s2 s3)
  =f129_1.l0 L N (f129_1.X0_e0 κ) (f129_1.X0_r κ) n s0 s1 s2 s3:=by
 intro n
 induction n with
 |zero=>intros;rfl
 |succ n ih=>
  intro s0 s1 s2 s3
  rw [evLp_succ,f129_1.s0_eq]
  delta f129_1.R0
  simp only [ih]
  rfl
theorem f129_1.p0_e0_eq {R:Type} (L N:Nat) (κ:AV→Option R):
  (contAt (E129_1 L N) (evCallI (E129_1 L N) 0 1000) 1000 129 19 0 (codeOf Tryz.f129) (finK (E129_1 L N) 1000 Tryz.f129 (finC (.one i64) κ))) (.exit 0) f129_1.T0_e0 f129_1.H0_e0
  =f129_1.p0_e0 L N (fun a0=>κ (.tv i64 a0)):=by kernel_rfl
theorem f129_1.p0_r_eq {R:Type} (L N:Nat) (κ:AV→Option R) (z5:Int):
  (contAt (E129_1 L N) (evCallI (E129_1 L N) 0 1000) 1000 129 19 0 (codeOf Tryz.f129) (finK (E129_1 L N) 1000 Tryz.f129 (finC (.one i64) κ))) .ret (f129_1.T0_r z5) (f129_1.H0_r z5)
  =f129_1.p0_r L N (fun a0=>κ (.tv i64 a0)) z5:=by kernel_rfl
theorem f129_1.b_eq {R:Type} (L N:Nat) (κ:AV→Option R) (x0:LT) (x1:LT):
  evBody (E129_1 L N) (evCallI (E129_1 L N) 0 1000) 1000 129 Tryz.f129 [(.tv (.sl (.st 1)) x0),(.fn 139 [(.imp (.sl (.st 1)) x1 0)])] [] [] (finC (.one i64) κ)
  =f129_1.b L N (fun a0=>κ (.tv i64 a0)) x0 x1:=by
 refine Eq.trans (b:=f129_1.b' L N (fun a0=>κ (.tv i64 a0)) (fun s0 s1 s2 s3=>evLp (E129_1 L N) (evCallI (E129_1 L N) 0 1000) 1000 129 19 0 f129_1.c0 (contAt (E129_1 L N) (evCallI (E129_1 L N) 0 1000) 1000 129 19 0 (codeOf Tryz.f129) (finK (E129_1 L N) 1000 Tryz.f129 (finC (.one i64) κ))) L (f129_1.T0 s0 s1 s2 s3) (f129_1.H0 s0 s1 s2 s3)) x0 x1) (by kernel_rfl) ?_
 unfold f129_1.b
 simp only [f129_1.l0_eq]
 delta f129_1.X0_e0 f129_1.X0_r
 simp only [f129_1.p0_e0_eq,f129_1.p0_r_eq]
theorem f129_1.ok (L N:Nat) (hΦ:TellsOk Tryz.prog ((Φ139_1 L N))):EntOkO Tryz.prog 129 (f129_1.ent L N):=entRf_ok (E:=(E129_1 L N)) (dep:=1000) (f:=Tryz.f129) (sound_of hΦ) okP (callI_sound (sound_of hΦ) okP 0 1000) rfl rfl fun d _ hy=>(f129_1.b_eq L N (unR (.one i64)) d.1 d.2.1.1).trans (Eq.trans (b:=f129_1.b L N some d.1 d.2.1.1) (by kernel_rfl) hy)
def Φ129_1 (L N:Nat):Tells:=(addO (Φ139_1 L N) 129 (f129_1.ent L N))
theorem Φ129_1_ok (L N:Nat):TellsOk Tryz.prog (Φ129_1 L N):=addO_ok (Φ139_1_ok L N) (f129_1.ok L N (Φ139_1_ok L N))
def f90_1.b' {R:Type} (L N:Nat) (k:Bool→Option R) (x0:LT) (x1:LT):Option R:=
 (f129_1 L N x0 x1).bind fun y0=>
 k (decide (y0≥(0:Int)))
def f90_1.b {R:Type} (L N:Nat) (k:Bool→Option R) (x0:LT) (x1:LT):Option R:=
 f90_1.b' L N k x0 x1
def f90_1 (L N:Nat) (x0:LT) (x1:LT):Option (Bool):=f90_1.b L N some x0 x1
def f90_1.ent (L N:Nat):=entRf [(.dat (.sl (.st 1))),(.fn 139 [(.imp (.sl (.st 1)) 0)])] (.one .bool) fun d=>f90_1 L N d.1 d.2.1.1
noncomputable def E90_1 (L N:Nat):Env:={P:=Tryz.prog,ty:=tyOf,Φ:=(Φ129_1 L N),inl:=inlT,live:=lives,liveX:=livesX,L:=L,dp:=none,prom:=promT,heal:=healT,ren:=renT}
theorem f90_1.b_eq {R:Type} (L N:Nat) (κ:AV→Option R) (x0:LT) (x1:LT):
  evBody (E90_1 L N) (evCallI (E90_1 L N) 0 1000) 1000 90 Tryz.f90 [(.tv (.sl (.st 1)) x0),(.fn 139 [(.imp (.sl (.st 1)) x1 0)])] [] [] (finC (.one .bool) κ)
  =f90_1.b L N (fun a0=>κ (.tv .bool a0)) x0 x1:=by kernel_rfl
theorem f90_1.ok (L N:Nat) (hΦ:TellsOk Tryz.prog ((Φ129_1 L N))):EntOkO Tryz.prog 90 (f90_1.ent L N):=entRf_ok (E:=(E90_1 L N)) (dep:=1000) (f:=Tryz.f90) (sound_of hΦ) okP (callI_sound (sound_of hΦ) okP 0 1000) rfl rfl fun d _ hy=>(f90_1.b_eq L N (unR (.one .bool)) d.1 d.2.1.1).trans (Eq.trans (b:=f90_1.b L N some d.1 d.2.1.1) (by kernel_rfl) hy)
def Φ90_1 (L N:Nat):Tells:=(addO (Φ129_1 L N) 90 (f90_1.ent L N))
theorem Φ90_1_ok (L N:Nat):TellsOk Tryz.prog (Φ90_1 L N):=addO_ok (Φ129_1_ok L N) (f90_1.ok L N (Φ129_1_ok L N))
def f102.b' {R:Type} (L N:Nat) (k:Bool→Option R) (x0:LT):Option R:=
 bif (decide ((x0.length:Int)≤(3:Int))) then
  (f90_1 L N x0 x0).bind fun y0=>
  k (!y0)
 else k false
def f102.b {R:Type} (L N:Nat) (k:Bool→Option R) (x0:LT):Option R:=
 f102.b' L N k x0
def f102 (L N:Nat) (x0:LT):Option (Bool):=f102.b L N some x0
def f102.ent (L N:Nat):=entRo [(.sl (.st 1))] (.one .bool) fun d=>f102 L N d.1
noncomputable def E102 (L N:Nat):Env:={P:=Tryz.prog,ty:=tyOf,Φ:=(Φ90_1 L N),inl:=inlT,live:=lives,liveX:=livesX,L:=L,dp:=none,prom:=promT,heal:=healT,ren:=renT}
theorem f102.b_eq {R:Type} (L N:Nat) (κ:AV→Option R) (x0:LT):
  evBody (E102 L N) (evCallI (E102 L N) 0 1000) 1000 102 Tryz.f102 [(.tv (.sl (.st 1)) x0)] [] [] (finC (.one .bool) κ)
  =f102.b L N (fun a0=>κ (.tv .bool a0)) x0:=by kernel_rfl
theorem f102.ok (L N:Nat) (hΦ:TellsOk Tryz.prog ((Φ90_1 L N))):EntOk Tryz.prog 102 (f102.ent L N):=entRo_ok (E:=(E102 L N)) (dep:=1000) (f:=Tryz.f102) (sound_of hΦ) okP (callI_sound (sound_of hΦ) okP 0 1000) rfl rfl fun d _ hy=>(f102.b_eq L N (unR (.one .bool)) d.1).trans (Eq.trans (b:=f102.b L N some d.1) (by kernel_rfl) hy)
def Φ102 (L N:Nat):Tells:=(addT (Φ90_1 L N) 102 (f102.ent L N))
theorem Φ102_ok (L N:Nat):TellsOk Tryz.prog (Φ102 L N):=addT_ok (Φ90_1_ok L N) (f102.ok L N (Φ90_1_ok L N))
def f89.b' {R:Type} (L N:Nat) (k:Int→Option R) (x0:Int):Option R:=
 k (wi ((bif decide ((wi (0-x0))>x0) then (wi (0-x0)) else x0)-(1:Int)))
def f89.b {R:Type} (L N:Nat) (k:Int→Option R) (x0:Int):Option R:=
 f89.b' L N k x0
def f89 (L N:Nat) (x0:Int):Option (Int):=f89.b L N some x0
def f89.ent (L N:Nat):=entRo [i64] (.one i64) fun d=>f89 L N d.1
noncomputable def E89 (L N:Nat):Env:={P:=Tryz.prog,ty:=tyOf,Φ:=(Φ102 L N),inl:=inlT,live:=lives,liveX:=livesX,L:=L,dp:=none,prom:=promT,heal:=healT,ren:=renT}
theorem f89.b_eq {R:Type} (L N:Nat) (κ:AV→Option R) (x0:Int):
  evBody (E89 L N) (evCallI (E89 L N) 0 1000) 1000 89 Tryz.f89 [(.tv i64 x0)] [] [] (finC (.one i64) κ)
  =f89.b L N (fun a0=>κ (.tv i64 a0)) x0:=by kernel_rfl
theorem f89.ok (L N:Nat) (hΦ:TellsOk Tryz.prog ((Φ102 L N))):EntOk Tryz.prog 89 (f89.ent L N):=entRo_ok (E:=(E89 L N)) (dep:=1000) (f:=Tryz.f89) (sound_of hΦ) okP (callI_sound (sound_of hΦ) okP 0 1000) rfl rfl fun d _ hy=>(f89.b_eq L N (unR (.one i64)) d.1).trans (Eq.trans (b:=f89.b L N some d.1) (by kernel_rfl) hy)
def Φ89 (L N:Nat):Tells:=(addT (Φ102 L N) 89 (f89.ent L N))
theorem Φ89_ok (L N:Nat):TellsOk Tryz.prog (Φ89 L N):=addT_ok (Φ102_ok L N) (f89.ok L N (Φ102_ok L N))
def f131.b' {R:Type} (L N:Nat) (k:ByteArray→Option R) (x0:Int):Option R:=
 k (strOfNums ([(IntKind.wrap .u8 ((wi ((97:Int)+x0))))]:LI))
def f131.b {R:Type} (L N:Nat) (k:ByteArray→Option R) (x0:Int):Option R:=
 f131.b' L N k x0
def f131 (L N:Nat) (x0:Int):Option (ByteArray):=f131.b L N some x0
def f131.ent (L N:Nat):=entRo [i64] (.one .str) fun d=>f131 L N d.1
noncomputable def E131 (L N:Nat):Env:={P:=Tryz.prog,ty:=tyOf,Φ:=(Φ89 L N),inl:=inlT,live:=lives,liveX:=livesX,L:=L,dp:=none,prom:=promT,heal:=healT,ren:=renT}
theorem f131.b_eq {R:Type} (L N:Nat) (κ:AV→Option R) (x0:Int):
  evBody (E131 L N) (evCallI (E131 L N) 0 1000) 1000 131 Tryz.f131 [(.tv i64 x0)] [] [] (finC (.one .str) κ)
  =f131.b L N (fun a0=>κ (.tv .str a0)) x0:=by kernel_rfl
theorem f131.ok (L N:Nat) (hΦ:TellsOk Tryz.prog ((Φ89 L N))):EntOk Tryz.prog 131 (f131.ent L N):=entRo_ok (E:=(E131 L N)) (dep:=1000) (f:=Tryz.f131) (sound_of hΦ) okP (callI_sound (sound_of hΦ) okP 0 1000) rfl rfl fun d _ hy=>(f131.b_eq L N (unR (.one .str)) d.1).trans (Eq.trans (b:=f131.b L N some d.1) (by kernel_rfl) hy)
def Φ131 (L N:Nat):Tells:=(addT (Φ89 L N) 131 (f131.ent L N))
theorem Φ131_ok (L N:Nat):TellsOk Tryz.prog (Φ131 L N):=addT_ok (Φ89_ok L N) (f131.ok L N (Φ89_ok L N))
def f130.b' {R:Type} (L N:Nat) (k:ByteArray→Option R) (x0:Int):Option R:=
 (f121 L N x0).bind fun y0=>
 bif (!y0) then
  k (ByteArray.mk #[])
 else bif (x0==(0:Int)) then
  k (ByteArray.mk #[116,97,117])
 else bif (decide (x0>(0:Int))) then
  (f89 L N x0).bind fun y1=>
  (f131 L N y1).bind fun y2=>
  k y2
 else (f89 L N x0).bind fun y3=>
 (f131 L N y3).bind fun y4=>
 bif (decide ((ByteArray.mk #[33]).size+y4.size≤4611686018427387904)) then
  k ((ByteArray.mk #[33])++y4)
 else none
def f130.b {R:Type} (L N:Nat) (k:ByteArray→Option R) (x0:Int):Option R:=
 f130.b' L N k x0
def f130 (L N:Nat) (x0:Int):Option (ByteArray):=f130.b L N some x0
def f130.ent (L N:Nat):=entRo [i64] (.one .str) fun d=>f130 L N d.1
noncomputable def E130 (L N:Nat):Env:={P:=Tryz.prog,ty:=tyOf,Φ:=(Φ131 L N),inl:=inlT,live:=lives,liveX:=livesX,L:=L,dp:=none,prom:=promT,heal:=healT,ren:=renT}
theorem f130.b_eq {R:Type} (L N:Nat) (κ:AV→Option R) (x0:Int):
  evBody (E130 L N) (evCallI (E130 L N) 0 1000) 1000 130 Tryz.f130 [(.tv i64 x0)] [] [] (finC (.one .str) κ)
  =f130.b L N (fun a0=>κ (.tv .str a0)) x0:=by kernel_rfl
theorem f130.ok (L N:Nat) (hΦ:TellsOk Tryz.prog ((Φ131 L N))):EntOk Tryz.prog 130 (f130.ent L N):=entRo_ok (E:=(E130 L N)) (dep:=1000) (f:=Tryz.f130) (sound_of hΦ) okP (callI_sound (sound_of hΦ) okP 0 1000) rfl rfl fun d _ hy=>(f130.b_eq L N (unR (.one .str)) d.1).trans (Eq.trans (b:=f130.b L N some d.1) (by kernel_rfl) hy)
def Φ130 (L N:Nat):Tells:=(addT (Φ131 L N) 130 (f130.ent L N))
theorem Φ130_ok (L N:Nat):TellsOk Tryz.prog (Φ130 L N):=addT_ok (Φ131_ok L N) (f130.ok L N (Φ131_ok L N))
def f92.b' {R:Type} (L N:Nat) (self92:Tree→Option (ByteArray)) (k:ByteArray→Option R) (x0:Tree):Option R:=
 bif (x0.op==(1:Int)) then
  (f130 L N x0.n).bind fun y0=>
  bif (decide ((ByteArray.mk #[40,97,99,116,32]).size+y0.size≤4611686018427387904)) then
   bif (decide (((ByteArray.mk #[40,97,99,116,32])++y0).size+(ByteArray.mk #[32]).size≤4611686018427387904)) then
    bif (decide (0≤(0:Int))&&decide ((0:Int)<(x0.parts.length:Int))) then
     (self92 (listAt x0.parts (Ty.dflt (.st 1)) (0:Int).toNat)).bind fun y1=>
     bif (decide ((((ByteArray.mk #[40,97,99,116,32])++y0)++(ByteArray.mk #[32])).size+y1.size≤4611686018427387904)) then
      bif (decide (((((ByteArray.mk #[40,97,99,116,32])++y0)++(ByteArray.mk #[32]))++y1).size+(ByteArray.mk #[41]).size≤4611686018427387904)) then
       k (((((ByteArray.mk #[40,97,99,116,32])++y0)++(ByteArray.mk #[32]))++y1)++(ByteArray.mk #[41]))
      else none
     else none
    else none
   else none
  else none
 else bif (x0.op==(2:Int)) then
  bif (decide (0≤(0:Int))&&decide ((0:Int)<(x0.parts.length:Int))) then
   (self92 (listAt x0.parts (Ty.dflt (.st 1)) (0:Int).toNat)).bind fun y2=>
   bif (decide ((ByteArray.mk #[40,115,117,109,32]).size+y2.size≤4611686018427387904)) then
    bif (decide (((ByteArray.mk #[40,115,117,109,32])++y2).size+(ByteArray.mk #[32]).size≤4611686018427387904)) then
     bif (decide (0≤(1:Int))&&decide ((1:Int)<(x0.parts.length:Int))) then
      (self92 (listAt x0.parts (Ty.dflt (.st 1)) (1:Int).toNat)).bind fun y3=>
      bif (decide ((((ByteArray.mk #[40,115,117,109,32])++y2)++(ByteArray.mk #[32])).size+y3.size≤4611686018427387904)) then
       bif (decide (((((ByteArray.mk #[40,115,117,109,32])++y2)++(ByteArray.mk #[32]))++y3).size+(ByteArray.mk #[41]).size≤4611686018427387904)) then
        k (((((ByteArray.mk #[40,115,117,109,32])++y2)++(ByteArray.mk #[32]))++y3)++(ByteArray.mk #[41]))
       else none
      else none
     else none
    else none
   else none
  else none
 else bif (x0.op==(3:Int)) then
  bif (decide (0≤(0:Int))&&decide ((0:Int)<(x0.parts.length:Int))) then
   (self92 (listAt x0.parts (Ty.dflt (.st 1)) (0:Int).toNat)).bind fun y4=>
   bif (decide ((ByteArray.mk #[40,112,97,114,32]).size+y4.size≤4611686018427387904)) then
    bif (decide (((ByteArray.mk #[40,112,97,114,32])++y4).size+(ByteArray.mk #[32]).size≤4611686018427387904)) then
     bif (decide (0≤(1:Int))&&decide ((1:Int)<(x0.parts.length:Int))) then
      (self92 (listAt x0.parts (Ty.dflt (.st 1)) (1:Int).toNat)).bind fun y5=>
      bif (decide ((((ByteArray.mk #[40,112,97,114,32])++y4)++(ByteArray.mk #[32])).size+y5.size≤4611686018427387904)) then
       bif (decide (((((ByteArray.mk #[40,112,97,114,32])++y4)++(ByteArray.mk #[32]))++y5).size+(ByteArray.mk #[41]).size≤4611686018427387904)) then
        k (((((ByteArray.mk #[40,112,97,114,32])++y4)++(ByteArray.mk #[32]))++y5)++(ByteArray.mk #[41]))
       else none
      else none
     else none
    else none
   else none
  else none
 else bif (x0.op==(4:Int)) then
  (f131 L N x0.n).bind fun y6=>
  bif (decide ((ByteArray.mk #[40,104,105,100,101,32]).size+y6.size≤4611686018427387904)) then
   bif (decide (((ByteArray.mk #[40,104,105,100,101,32])++y6).size+(ByteArray.mk #[32]).size≤4611686018427387904)) then
    bif (decide (0≤(0:Int))&&decide ((0:Int)<(x0.parts.length:Int))) then
     (self92 (listAt x0.parts (Ty.dflt (.st 1)) (0:Int).toNat)).bind fun y7=>
     bif (decide ((((ByteArray.mk #[40,104,105,100,101,32])++y6)++(ByteArray.mk #[32])).size+y7.size≤4611686018427387904)) then
      bif (decide (((((ByteArray.mk #[40,104,105,100,101,32])++y6)++(ByteArray.mk #[32]))++y7).size+(ByteArray.mk #[41]).size≤4611686018427387904)) then
       k (((((ByteArray.mk #[40,104,105,100,101,32])++y6)++(ByteArray.mk #[32]))++y7)++(ByteArray.mk #[41]))
      else none
     else none
    else none
   else none
  else none
 else bif (x0.op==(5:Int)) then
  ((fitoa x0.n)).bind fun y8=>
  bif (decide ((ByteArray.mk #[88]).size+y8.size≤4611686018427387904)) then
   k ((ByteArray.mk #[88])++y8)
  else none
 else k (ByteArray.mk #[48])
def f92.b {R:Type} (L N:Nat) (self92:Tree→Option (ByteArray)) (k:ByteArray→Option R) (x0:Tree):Option R:=
 f92.b' L N self92 k x0
def f92 (L N:Nat):Nat→Tree→Option (ByteArray)
 |0,_=>none
 |n+1,x0=>f92.b L N (f92 L N n) some x0
def f92.ent (L N m:Nat):=entRo [(.st 1)] (.one .str) fun d=>f92 L N m d.1
def Φ92s (L N m:Nat):Tells:=(addT (Φ130 L N) 92 (f92.ent L N m))
noncomputable def E92 (L N m:Nat):Env:={P:=Tryz.prog,ty:=tyOf,Φ:=Φ92s L N m,inl:=inlT,live:=lives,liveX:=livesX,L:=L,dp:=none,prom:=promT,heal:=healT,ren:=renT}
theorem f92.b_eq {R:Type} (L N m:Nat) (κ:AV→Option R) (x0:Tree):
  evBody (E92 L N m) (evCallI (E92 L N m) 0 1000) 1000 92 Tryz.f92 [(.tv (.st 1) x0)] [] [] (finC (.one .str) κ)
  =f92.b L N (f92 L N m) (fun a0=>κ (.tv .str a0)) x0:=by kernel_rfl
theorem f92.ok (L N m:Nat) (hΦ:TellsOk Tryz.prog (Φ92s L N m)):EntOk Tryz.prog 92 (f92.ent L N (m+1)):=entRo_ok (E:=(E92 L N m)) (dep:=1000) (f:=Tryz.f92) (sound_of hΦ) okP (callI_sound (sound_of hΦ) okP 0 1000) rfl rfl fun d _ hy=>(f92.b_eq L N m (unR (.one .str)) d.1).trans (Eq.trans (b:=f92.b L N (f92 L N m) some d.1) (by kernel_rfl) hy)
theorem Φ92s_ok (L N:Nat):∀m,TellsOk Tryz.prog (Φ92s L N m):=by
 intro m
 induction m with
 |zero=>exact (addT_ok (Φ130_ok L N) (entRo_no fun _=>rfl))
 |succ m ih=>exact (addT_ok (Φ130_ok L N) (f92.ok L N m ih))
def Φ92 (L N:Nat):Tells:=(addT (Φ130 L N) 92 (f92.ent L N N))
theorem Φ92_ok (L N:Nat):TellsOk Tryz.prog (Φ92 L N):=Φ92s_ok L N N
def f126.b' {R:Type} (L N:Nat) (k:Tree→Option R) (x0:Int) (x1:Tree):Option R:=
 k (Tree.mk (4:Int) x0 ([(Tree.mk x1.op x1.n x1.parts)]:LT))
def f126.b {R:Type} (L N:Nat) (k:Tree→Option R) (x0:Int) (x1:Tree):Option R:=
 f126.b' L N k x0 x1
def f126 (L N:Nat) (x0:Int) (x1:Tree):Option (Tree):=f126.b L N some x0 x1
def f126.ent (L N:Nat):=entDa [i64,(.st 1)] (.one (.st 1)) fun d=>f126 L N d.1 d.2.1
noncomputable def E126 (L N:Nat):Env:={P:=Tryz.prog,ty:=tyOf,Φ:=(Φ92 L N),inl:=inlT,live:=lives,liveX:=livesX,L:=L,dp:=none,prom:=promT,heal:=healT,ren:=renT}
theorem f126.b_eq {R:Type} (L N:Nat) (κ:AV→Option R) (x0:Int) (x1:Tree):
  evBody (E126 L N) (evCallI (E126 L N) 0 1000) 1000 126 Tryz.f126 [(.tv i64 x0),(.tv (.st 1) x1)] [] [] (finC (.one (.st 1)) κ)
  =f126.b L N (fun a0=>κ (.tv (.st 1) a0)) x0 x1:=by kernel_rfl
theorem f126.ok (L N:Nat) (hΦ:TellsOk Tryz.prog ((Φ92 L N))):EntOk Tryz.prog 126 (f126.ent L N):=entDa_ok (E:=(E126 L N)) (dep:=1000) (f:=Tryz.f126) (sound_of hΦ) okP (callI_sound (sound_of hΦ) okP 0 1000) rfl fun d _ hy=>(f126.b_eq L N (unR (.one (.st 1))) d.1 d.2.1).trans (Eq.trans (b:=f126.b L N some d.1 d.2.1) (by kernel_rfl) hy)
def Φ126 (L N:Nat):Tells:=(addT (Φ92 L N) 126 (f126.ent L N))
theorem Φ126_ok (L N:Nat):TellsOk Tryz.prog (Φ126 L N):=addT_ok (Φ92_ok L N) (f126.ok L N (Φ92_ok L N))
def f133.b' {R:Type} (L N:Nat) (k:Tree→Option R) (x0:Tree) (x1:Tree):Option R:=
 k (Tree.mk (3:Int) (0:Int) ([(Tree.mk x0.op x0.n x0.parts),(Tree.mk x1.op x1.n x1.parts)]:LT))
def f133.b {R:Type} (L N:Nat) (k:Tree→Option R) (x0:Tree) (x1:Tree):Option R:=
 f133.b' L N k x0 x1
def f133 (L N:Nat) (x0:Tree) (x1:Tree):Option (Tree):=f133.b L N some x0 x1
def f133.ent (L N:Nat):=entDa [(.st 1),(.st 1)] (.one (.st 1)) fun d=>f133 L N d.1 d.2.1
noncomputable def E133 (L N:Nat):Env:={P:=Tryz.prog,ty:=tyOf,Φ:=(Φ126 L N),inl:=inlT,live:=lives,liveX:=livesX,L:=L,dp:=none,prom:=promT,heal:=healT,ren:=renT}
theorem f133.b_eq {R:Type} (L N:Nat) (κ:AV→Option R) (x0:Tree) (x1:Tree):
  evBody (E133 L N) (evCallI (E133 L N) 0 1000) 1000 133 Tryz.f133 [(.tv (.st 1) x0),(.tv (.st 1) x1)] [] [] (finC (.one (.st 1)) κ)
  =f133.b L N (fun a0=>κ (.tv (.st 1) a0)) x0 x1:=by kernel_rfl
theorem f133.ok (L N:Nat) (hΦ:TellsOk Tryz.prog ((Φ126 L N))):EntOk Tryz.prog 133 (f133.ent L N):=entDa_ok (E:=(E133 L N)) (dep:=1000) (f:=Tryz.f133) (sound_of hΦ) okP (callI_sound (sound_of hΦ) okP 0 1000) rfl fun d _ hy=>(f133.b_eq L N (unR (.one (.st 1))) d.1 d.2.1).trans (Eq.trans (b:=f133.b L N some d.1 d.2.1) (by kernel_rfl) hy)
def Φ133 (L N:Nat):Tells:=(addT (Φ126 L N) 133 (f133.ent L N))
theorem Φ133_ok (L N:Nat):TellsOk Tryz.prog (Φ133 L N):=addT_ok (Φ126_ok L N) (f133.ok L N (Φ126_ok L N))
def f93.s0' {R:Type} (L N:Nat) (self93:Tree→LT→Option (LS)) (k0_e1:Int→Int→LT→LS→LS→LS→Option R) (rec0:Int→Int→Int→Int→LT→LS→LS→LS→Option R) (s4:Int) (s5:Int) (s6:Int) (s7:Int) (s8:LT) (s9:LS) (s10:LS) (s11:LS):Option R:=
 bif (decide (s5<s4)) then
  bif (decide (0≤s5)&&decide (s5<(s9.length:Int))) then
   bif (decide (0≤(1:Int))&&decide ((1:Int)<(s8.length:Int))) then
    (f133 L N (Tree.mk ((listAt s9 (Ty.dflt (.st 3)) s5.toNat).thn.op) ((listAt s9 (Ty.dflt (.st 3)) s5.toNat).thn.n) ((listAt s9 (Ty.dflt (.st 3)) s5.toNat).thn.parts)) (listAt s8 (Ty.dflt (.st 1)) (1:Int).toNat)).bind fun y18=>
    bif (decide (s11.length+([(Step.mk ((listAt s9 (Ty.dflt (.st 3)) s5.toNat).act) (Tree.mk y18.op y18.n y18.parts))]:LS).length≤lim)) then
     rec0 s4 (wi (s5+(1:Int))) s6 s7 s8 s9 s10 (s11++([(Step.mk ((listAt s9 (Ty.dflt (.st 3)) s5.toNat).act) (Tree.mk y18.op y18.n y18.parts))]:LS))
    else none
   else none
  else none
 else k0_e1 s6 s7 s8 s9 s10 s11
def f93.s0 {R:Type} (L N:Nat) (self93:Tree→LT→Option (LS)) (k0_e1:Int→Int→LT→LS→LS→LS→Option R) (rec0:Int→Int→Int→Int→LT→LS→LS→LS→Option R) (s4:Int) (s5:Int) (s6:Int) (s7:Int) (s8:LT) (s9:LS) (s10:LS) (s11:LS):Option R:=
 f93.s0' L N self93 k0_e1 rec0 s4 s5 s6 s7 s8 s9 s10 s11
def f93.l0 {R:Type} (L N:Nat) (self93:Tree→LT→Option (LS)) (k0_e1:Int→Int→LT→LS→LS→LS→Option R):Nat→Int→Int→Int→Int→LT→LS→LS→LS→Option R
 |0,_,_,_,_,_,_,_,_=>none
 |n+1,s4,s5,s6,s7,s8,s9,s10,s11=>f93.s0 L N self93 k0_e1 (f93.l0 L N self93 k0_e1 n) s4 s5 s6 s7 s8 s9 s10 s11
def f93.T0 (s4:Int) (s5:Int) (s6:Int) (s7:Int) (s8:LT) (s9:LS) (s10:LS) (s11:LS):T:=mkT 183 [(2,(.ptr 1002 0)),(5,(.row 1053)),(6,(.row 1059)),(7,(.row 1060)),(61,(.row 1053)),(62,(.tv i64 s4)),(63,(.tv i64 s5))]
def f93.H0 (s4:Int) (s5:Int) (s6:Int) (s7:Int) (s8:LT) (s9:LS) (s10:LS) (s11:LS):H:=[(1002,(.box [(.tv i64 s6),(.tv i64 s7),(.tv (.sl (.st 1)) s8)])),(1053,(.row 113 (.st 3) s9)),(1059,(.row 113 (.st 3) s10)),(1060,(.row 113 (.st 3) s11))]
def f93.T0_e1 (z12:Int) (z13:Int) (z14:LT) (z15:LS) (z16:LS) (z17:LS):T:=mkT 183 [(2,(.ptr 1002 0)),(5,(.row 1053)),(6,(.row 1059)),(7,(.row 1060))]
def f93.H0_e1 (z12:Int) (z13:Int) (z14:LT) (z15:LS) (z16:LS) (z17:LS):H:=[(1002,(.box [(.tv i64 z12),(.tv i64 z13),(.tv (.sl (.st 1)) z14)])),(1053,(.row 113 (.st 3) z15)),(1059,(.row 113 (.st 3) z16)),(1060,(.row 113 (.st 3) z17))]
def f93.s1' {R:Type} (L N:Nat) (self93:Tree→LT→Option (LS)) (k1_e3:LS→LS→LS→Option R) (rec1:Int→Int→Int→Int→LT→LS→LS→LS→Option R) (s19:Int) (s20:Int) (s21:Int) (s22:Int) (s23:LT) (s24:LS) (s25:LS) (s26:LS):Option R:=
 bif (decide (s20<s19)) then
  bif (decide (0≤s20)&&decide (s20<(s25.length:Int))) then
   bif (decide (0≤(0:Int))&&decide ((0:Int)<(s23.length:Int))) then
    (f133 L N (listAt s23 (Ty.dflt (.st 1)) (0:Int).toNat) (Tree.mk ((listAt s25 (Ty.dflt (.st 3)) s20.toNat).thn.op) ((listAt s25 (Ty.dflt (.st 3)) s20.toNat).thn.n) ((listAt s25 (Ty.dflt (.st 3)) s20.toNat).thn.parts))).bind fun y30=>
    bif (decide (s26.length+([(Step.mk ((listAt s25 (Ty.dflt (.st 3)) s20.toNat).act) (Tree.mk y30.op y30.n y30.parts))]:LS).length≤lim)) then
     rec1 s19 (wi (s20+(1:Int))) s21 s22 s23 s24 s25 (s26++([(Step.mk ((listAt s25 (Ty.dflt (.st 3)) s20.toNat).act) (Tree.mk y30.op y30.n y30.parts))]:LS))
    else none
   else none
  else none
 else k1_e3 s24 s25 s26
def f93.s1 {R:Type} (L N:Nat) (self93:Tree→LT→Option (LS)) (k1_e3:LS→LS→LS→Option R) (rec1:Int→Int→Int→Int→LT→LS→LS→LS→Option R) (s19:Int) (s20:Int) (s21:Int) (s22:Int) (s23:LT) (s24:LS) (s25:LS) (s26:LS):Option R:=
 f93.s1' L N self93 k1_e3 rec1 s19 s20 s21 s22 s23 s24 s25 s26
def f93.l1 {R:Type} (L N:Nat) (self93:Tree→LT→Option (LS)) (k1_e3:LS→LS→LS→Option R):Nat→Int→Int→Int→Int→LT→LS→LS→LS→Option R
 |0,_,_,_,_,_,_,_,_=>none
 |n+1,s19,s20,s21,s22,s23,s24,s25,s26=>f93.s1 L N self93 k1_e3 (f93.l1 L N self93 k1_e3 n) s19 s20 s21 s22 s23 s24 s25 s26
def f93.T1 (s19:Int) (s20:Int) (s21:Int) (s22:Int) (s23:LT) (s24:LS) (s25:LS) (s26:LS):T:=mkT 183 [(2,(.ptr 1002 0)),(5,(.row 1053)),(6,(.row 1059)),(7,(.row 1060)),(81,(.row 1059)),(82,(.tv i64 s19)),(83,(.tv i64 s20))]
def f93.H1 (s19:Int) (s20:Int) (s21:Int) (s22:Int) (s23:LT) (s24:LS) (s25:LS) (s26:LS):H:=[(1002,(.box [(.tv i64 s21),(.tv i64 s22),(.tv (.sl (.st 1)) s23)])),(1053,(.row 113 (.st 3) s24)),(1059,(.row 113 (.st 3) s25)),(1060,(.row 113 (.st 3) s26))]
def f93.T1_e3 (z27:LS) (z28:LS) (z29:LS):T:=mkT 183 [(5,(.row 1053)),(6,(.row 1059)),(7,(.row 1060))]
def f93.H1_e3 (z27:LS) (z28:LS) (z29:LS):H:=[(1053,(.row 113 (.st 3) z27)),(1059,(.row 113 (.st 3) z28)),(1060,(.row 113 (.st 3) z29))]
def f93.j0' {R:Type} (L N:Nat) (self93:Tree→LT→Option (LS)) (k3_e7:Int→Int→LS→LS→LS→Option R) (rec3:Int→Int→Int→Int→Int→Int→Int→LT→LS→LS→LS→Option R) (v53:Int) (v54:Int) (v55:Int) (v56:Int) (v57:Bool) (v58:Int) (v59:Int) (v60:Int) (v61:LT) (v62:Int) (v63:Int) (v64:Int) (v65:LT) (v66:LS) (v67:LS) (v68:LS):Option R:=
 bif v57 then
  (f133 L N (Tree.mk v59 v60 v61) (Tree.mk v63 v64 v65)).bind fun y69=>
  bif (decide (v68.length+([(Step.mk (0:Int) (Tree.mk y69.op y69.n y69.parts))]:LS).length≤lim)) then
   rec3 v53 v54 v55 (wi (v56+(1:Int))) v58 v59 v60 v61 v66 v67 (v68++([(Step.mk (0:Int) (Tree.mk y69.op y69.n y69.parts))]:LS))
  else none
 else rec3 v53 v54 v55 (wi (v56+(1:Int))) v58 v59 v60 v61 v66 v67 v68
def f93.s3' {R:Type} (L N:Nat) (self93:Tree→LT→Option (LS)) (k3_e7:Int→Int→LS→LS→LS→Option R) (rec3:Int→Int→Int→Int→Int→Int→Int→LT→LS→LS→LS→Option R) (s37:Int) (s38:Int) (s39:Int) (s40:Int) (s41:Int) (s42:Int) (s43:Int) (s44:LT) (s45:LS) (s46:LS) (s47:LS):Option R:=
 bif (decide (s40<s39)) then
  bif (decide (0≤s40)&&decide (s40<(s46.length:Int))) then
   bif (s41 !=(0:Int)) then
    f93.j0' L N self93 k3_e7 rec3 s37 s38 s39 s40 (s41==(wi (0-(listAt s46 (Ty.dflt (.st 3)) s40.toNat).act))) s41 s42 s43 s44 ((listAt s46 (Ty.dflt (.st 3)) s40.toNat).act) ((listAt s46 (Ty.dflt (.st 3)) s40.toNat).thn.op) ((listAt s46 (Ty.dflt (.st 3)) s40.toNat).thn.n) ((listAt s46 (Ty.dflt (.st 3)) s40.toNat).thn.parts) s45 s46 s47
   else f93.j0' L N self93 k3_e7 rec3 s37 s38 s39 s40 false s41 s42 s43 s44 ((listAt s46 (Ty.dflt (.st 3)) s40.toNat).act) ((listAt s46 (Ty.dflt (.st 3)) s40.toNat).thn.op) ((listAt s46 (Ty.dflt (.st 3)) s40.toNat).thn.n) ((listAt s46 (Ty.dflt (.st 3)) s40.toNat).thn.parts) s45 s46 s47
  else none
 else k3_e7 s37 s38 s45 s46 s47
def f93.s3 {R:Type} (L N:Nat) (self93:Tree→LT→Option (LS)) (k3_e7:Int→Int→LS→LS→LS→Option R) (rec3:Int→Int→Int→Int→Int→Int→Int→LT→LS→LS→LS→Option R) (s37:Int) (s38:Int) (s39:Int) (s40:Int) (s41:Int) (s42:Int) (s43:Int) (s44:LT) (s45:LS) (s46:LS) (s47:LS):Option R:=
 f93.s3' L N self93 k3_e7 rec3 s37 s38 s39 s40 s41 s42 s43 s44 s45 s46 s47
def f93.l3 {R:Type} (L N:Nat) (self93:Tree→LT→Option (LS)) (k3_e7:Int→Int→LS→LS→LS→Option R):Nat→Int→Int→Int→Int→Int→Int→Int→LT→LS→LS→LS→Option R
 |0,_,_,_,_,_,_,_,_,_,_,_=>none
 |n+1,s37,s38,s39,s40,s41,s42,s43,s44,s45,s46,s47=>f93.s3 L N self93 k3_e7 (f93.l3 L N self93 k3_e7 n) s37 s38 s39 s40 s41 s42 s43 s44 s45 s46 s47
def f93.T3 (s37:Int) (s38:Int) (s39:Int) (s40:Int) (s41:Int) (s42:Int) (s43:Int) (s44:LT) (s45:LS) (s46:LS) (s47:LS):T:=mkT 183 [(6,(.row 1059)),(7,(.row 1060)),(13,(.ptr 1013 0)),(101,(.row 1053)),(102,(.tv i64 s37)),(103,(.tv i64 s38)),(107,(.row 1059)),(108,(.tv i64 s39)),(109,(.tv i64 s40))]
def f93.H3 (s37:Int) (s38:Int) (s39:Int) (s40:Int) (s41:Int) (s42:Int) (s43:Int) (s44:LT) (s45:LS) (s46:LS) (s47:LS):H:=[(1013,(.box [(.tv i64 s41),(.tv i64 s42),(.tv i64 s43),(.tv (.sl (.st 1)) s44)])),(1053,(.row 113 (.st 3) s45)),(1059,(.row 113 (.st 3) s46)),(1060,(.row 113 (.st 3) s47))]
def f93.T3_e7 (z48:Int) (z49:Int) (z50:LS) (z51:LS) (z52:LS):T:=mkT 183 [(6,(.row 1059)),(7,(.row 1060)),(101,(.row 1053)),(102,(.tv i64 z48)),(103,(.tv i64 z49))]
def f93.H3_e7 (z48:Int) (z49:Int) (z50:LS) (z51:LS) (z52:LS):H:=[(1053,(.row 113 (.st 3) z50)),(1059,(.row 113 (.st 3) z51)),(1060,(.row 113 (.st 3) z52))]
def f93.p3_e7' {R:Type} (L N:Nat) (self93:Tree→LT→Option (LS)) (k2_e5:LS→Option R) (rec2:Int→Int→LS→LS→LS→Option R) (z48:Int) (z49:Int) (z50:LS) (z51:LS) (z52:LS):Option R:=
 rec2 z48 (wi (z49+(1:Int))) z50 z51 z52
def f93.p3_e7 {R:Type} (L N:Nat) (self93:Tree→LT→Option (LS)) (k2_e5:LS→Option R) (rec2:Int→Int→LS→LS→LS→Option R) (z48:Int) (z49:Int) (z50:LS) (z51:LS) (z52:LS):Option R:=
 f93.p3_e7' L N self93 k2_e5 rec2 z48 z49 z50 z51 z52
def f93.s2' {R:Type} (L N:Nat) (self93:Tree→LT→Option (LS)) (k2_e5:LS→Option R) (rec2:Int→Int→LS→LS→LS→Option R) (w3:Int→Int→Int→Int→Int→Int→Int→LT→LS→LS→LS→Option R) (s31:Int) (s32:Int) (s33:LS) (s34:LS) (s35:LS):Option R:=
 bif (decide (s32<s31)) then
  bif (decide (0≤s32)&&decide (s32<(s33.length:Int))) then
   w3 s31 s32 (s34.length:Int) (0:Int) ((listAt s33 (Ty.dflt (.st 3)) s32.toNat).act) ((listAt s33 (Ty.dflt (.st 3)) s32.toNat).thn.op) ((listAt s33 (Ty.dflt (.st 3)) s32.toNat).thn.n) ((listAt s33 (Ty.dflt (.st 3)) s32.toNat).thn.parts) s33 s34 s35
  else none
 else k2_e5 s35
def f93.s2 {R:Type} (L N:Nat) (self93:Tree→LT→Option (LS)) (k2_e5:LS→Option R) (rec2:Int→Int→LS→LS→LS→Option R) (s31:Int) (s32:Int) (s33:LS) (s34:LS) (s35:LS):Option R:=
 f93.s2' L N self93 k2_e5 rec2 (fun s37 s38 s39 s40 s41 s42 s43 s44 s45 s46 s47=>f93.l3 L N self93 (fun z48 z49 z50 z51 z52=>f93.p3_e7 L N self93 k2_e5 rec2 z48 z49 z50 z51 z52) L s37 s38 s39 s40 s41 s42 s43 s44 s45 s46 s47) s31 s32 s33 s34 s35
def f93.l2 {R:Type} (L N:Nat) (self93:Tree→LT→Option (LS)) (k2_e5:LS→Option R):Nat→Int→Int→LS→LS→LS→Option R
 |0,_,_,_,_,_=>none
 |n+1,s31,s32,s33,s34,s35=>f93.s2 L N self93 k2_e5 (f93.l2 L N self93 k2_e5 n) s31 s32 s33 s34 s35
def f93.T2 (s31:Int) (s32:Int) (s33:LS) (s34:LS) (s35:LS):T:=mkT 183 [(6,(.row 1059)),(7,(.row 1060)),(101,(.row 1053)),(102,(.tv i64 s31)),(103,(.tv i64 s32))]
def f93.H2 (s31:Int) (s32:Int) (s33:LS) (s34:LS) (s35:LS):H:=[(1053,(.row 113 (.st 3) s33)),(1059,(.row 113 (.st 3) s34)),(1060,(.row 113 (.st 3) s35))]
def f93.T2_e5 (z36:LS):T:=mkT 183 [(7,(.row 1060))]
def f93.H2_e5 (z36:LS):H:=[(1060,(.row 113 (.st 3) z36))]
def f93.p2_e5' {R:Type} (L N:Nat) (self93:Tree→LT→Option (LS)) (k:LS→Option R) (z36:LS):Option R:=
 k z36
def f93.p2_e5 {R:Type} (L N:Nat) (self93:Tree→LT→Option (LS)) (k:LS→Option R) (z36:LS):Option R:=
 f93.p2_e5' L N self93 k z36
def f93.p1_e3' {R:Type} (L N:Nat) (self93:Tree→LT→Option (LS)) (k:LS→Option R) (w2:Int→Int→LS→LS→LS→Option R) (z27:LS) (z28:LS) (z29:LS):Option R:=
 w2 (z27.length:Int) (0:Int) z27 z28 z29
def f93.p1_e3 {R:Type} (L N:Nat) (self93:Tree→LT→Option (LS)) (k:LS→Option R) (z27:LS) (z28:LS) (z29:LS):Option R:=
 f93.p1_e3' L N self93 k (fun s31 s32 s33 s34 s35=>f93.l2 L N self93 (fun z36=>f93.p2_e5 L N self93 k z36) L s31 s32 s33 s34 s35) z27 z28 z29
def f93.p0_e1' {R:Type} (L N:Nat) (self93:Tree→LT→Option (LS)) (k:LS→Option R) (w1:Int→Int→Int→Int→LT→LS→LS→LS→Option R) (z12:Int) (z13:Int) (z14:LT) (z15:LS) (z16:LS) (z17:LS):Option R:=
 w1 (z16.length:Int) (0:Int) z12 z13 z14 z15 z16 z17
def f93.p0_e1 {R:Type} (L N:Nat) (self93:Tree→LT→Option (LS)) (k:LS→Option R) (z12:Int) (z13:Int) (z14:LT) (z15:LS) (z16:LS) (z17:LS):Option R:=
 f93.p0_e1' L N self93 k (fun s19 s20 s21 s22 s23 s24 s25 s26=>f93.l1 L N self93 (fun z27 z28 z29=>f93.p1_e3 L N self93 k z27 z28 z29) L s19 s20 s21 s22 s23 s24 s25 s26) z12 z13 z14 z15 z16 z17
def f93.j1' {R:Type} (L N:Nat) (self93:Tree→LT→Option (LS)) (k4_e9:LS→Option R) (rec4:Int→Int→Int→Int→LT→LS→LS→Option R) (v91:Int) (v92:Int) (v93:Bool) (v94:Int) (v95:Int) (v96:LT) (v97:Int) (v98:Int) (v99:Int) (v100:LT) (v101:LS) (v102:LS):Option R:=
 bif v93 then
  (f126 L N v95 (Tree.mk v98 v99 v100)).bind fun y103=>
  bif (decide (v101.length+([(Step.mk v97 (Tree.mk y103.op y103.n y103.parts))]:LS).length≤lim)) then
   rec4 v91 (wi (v92+(1:Int))) v94 v95 v96 (v101++([(Step.mk v97 (Tree.mk y103.op y103.n y103.parts))]:LS)) v102
  else none
 else rec4 v91 (wi (v92+(1:Int))) v94 v95 v96 v101 v102
def f93.s4' {R:Type} (L N:Nat) (self93:Tree→LT→Option (LS)) (k4_e9:LS→Option R) (rec4:Int→Int→Int→Int→LT→LS→LS→Option R) (s82:Int) (s83:Int) (s84:Int) (s85:Int) (s86:LT) (s87:LS) (s88:LS):Option R:=
 bif (decide (s83<s82)) then
  bif (decide (0≤s83)&&decide (s83<(s88.length:Int))) then
   bif ((listAt s88 (Ty.dflt (.st 3)) s83.toNat).act==(0:Int)) then
    f93.j1' L N self93 k4_e9 rec4 s82 s83 true s84 s85 s86 ((listAt s88 (Ty.dflt (.st 3)) s83.toNat).act) ((listAt s88 (Ty.dflt (.st 3)) s83.toNat).thn.op) ((listAt s88 (Ty.dflt (.st 3)) s83.toNat).thn.n) ((listAt s88 (Ty.dflt (.st 3)) s83.toNat).thn.parts) s87 s88
   else (f89 L N ((listAt s88 (Ty.dflt (.st 3)) s83.toNat).act)).bind fun y90=>
   f93.j1' L N self93 k4_e9 rec4 s82 s83 (y90 !=s85) s84 s85 s86 ((listAt s88 (Ty.dflt (.st 3)) s83.toNat).act) ((listAt s88 (Ty.dflt (.st 3)) s83.toNat).thn.op) ((listAt s88 (Ty.dflt (.st 3)) s83.toNat).thn.n) ((listAt s88 (Ty.dflt (.st 3)) s83.toNat).thn.parts) s87 s88
  else none
 else k4_e9 s87
def f93.s4 {R:Type} (L N:Nat) (self93:Tree→LT→Option (LS)) (k4_e9:LS→Option R) (rec4:Int→Int→Int→Int→LT→LS→LS→Option R) (s82:Int) (s83:Int) (s84:Int) (s85:Int) (s86:LT) (s87:LS) (s88:LS):Option R:=
 f93.s4' L N self93 k4_e9 rec4 s82 s83 s84 s85 s86 s87 s88
def f93.l4 {R:Type} (L N:Nat) (self93:Tree→LT→Option (LS)) (k4_e9:LS→Option R):Nat→Int→Int→Int→Int→LT→LS→LS→Option R
 |0,_,_,_,_,_,_,_=>none
 |n+1,s82,s83,s84,s85,s86,s87,s88=>f93.s4 L N self93 k4_e9 (f93.l4 L N self93 k4_e9 n) s82 s83 s84 s85 s86 s87 s88
def f93.T4 (s82:Int) (s83:Int) (s84:Int) (s85:Int) (s86:LT) (s87:LS) (s88:LS):T:=mkT 183 [(2,(.ptr 1002 0)),(16,(.row 1138)),(144,(.row 1144)),(145,(.tv i64 s82)),(146,(.tv i64 s83))]
def f93.H4 (s82:Int) (s83:Int) (s84:Int) (s85:Int) (s86:LT) (s87:LS) (s88:LS):H:=[(1002,(.box [(.tv i64 s84),(.tv i64 s85),(.tv (.sl (.st 1)) s86)])),(1138,(.row 113 (.st 3) s87)),(1144,(.row 113 (.st 3) s88))]
def f93.T4_e9 (z89:LS):T:=mkT 183 [(16,(.row 1138))]
def f93.H4_e9 (z89:LS):H:=[(1138,(.row 113 (.st 3) z89))]
def f93.p4_e9' {R:Type} (L N:Nat) (self93:Tree→LT→Option (LS)) (k:LS→Option R) (z89:LS):Option R:=
 k z89
def f93.p4_e9 {R:Type} (L N:Nat) (self93:Tree→LT→Option (LS)) (k:LS→Option R) (z89:LS):Option R:=
 f93.p4_e9' L N self93 k z89
def f93.b' {R:Type} (L N:Nat) (self93:Tree→LT→Option (LS)) (k:LS→Option R) (w0:Int→Int→Int→Int→LT→LS→LS→LS→Option R) (w4:Int→Int→Int→Int→LT→LS→LS→Option R) (x0:Tree) (x1:LT):Option R:=
 bif (x0.op==(1:Int)) then
  bif (decide (0≤(0:Int))&&decide ((0:Int)<(x0.parts.length:Int))) then
   k ([(Step.mk x0.n (Tree.mk ((listAt x0.parts (Ty.dflt (.st 1)) (0:Int).toNat).op) ((listAt x0.parts (Ty.dflt (.st 1)) (0:Int).toNat).n) ((listAt x0.parts (Ty.dflt (.st 1)) (0:Int).toNat).parts)))]:LS)
  else none
 else bif (x0.op==(2:Int)) then
  bif (decide (0≤(0:Int))&&decide ((0:Int)<(x0.parts.length:Int))) then
   (self93 (listAt x0.parts (Ty.dflt (.st 1)) (0:Int).toNat) x1).bind fun y0=>
   bif (decide (0≤(1:Int))&&decide ((1:Int)<(x0.parts.length:Int))) then
    (self93 (listAt x0.parts (Ty.dflt (.st 1)) (1:Int).toNat) x1).bind fun y1=>
    bif (decide (y0.length+y1.length≤lim)) then
     k (y0++y1)
    else none
   else none
  else none
 else bif (x0.op==(3:Int)) then
  bif (decide (0≤(0:Int))&&decide ((0:Int)<(x0.parts.length:Int))) then
   (self93 (listAt x0.parts (Ty.dflt (.st 1)) (0:Int).toNat) x1).bind fun y2=>
   bif (decide (0≤(1:Int))&&decide ((1:Int)<(x0.parts.length:Int))) then
    (self93 (listAt x0.parts (Ty.dflt (.st 1)) (1:Int).toNat) x1).bind fun y3=>
    w0 (y2.length:Int) (0:Int) x0.op x0.n x0.parts y2 y3 ([]:LS)
   else none
  else none
 else bif (x0.op==(4:Int)) then
  bif (decide (0≤(0:Int))&&decide ((0:Int)<(x0.parts.length:Int))) then
   (self93 (listAt x0.parts (Ty.dflt (.st 1)) (0:Int).toNat) x1).bind fun y81=>
   w4 (y81.length:Int) (0:Int) x0.op x0.n x0.parts ([]:LS) y81
  else none
 else bif (x0.op==(5:Int)) then
  bif (decide (0≤x0.n)&&decide (x0.n<(x1.length:Int))) then
   (self93 (listAt x1 (Ty.dflt (.st 1)) x0.n.toNat) x1).bind fun y111=>
   k y111
  else none
 else k []
def f93.b {R:Type} (L N:Nat) (self93:Tree→LT→Option (LS)) (k:LS→Option R) (x0:Tree) (x1:LT):Option R:=
 f93.b' L N self93 k (fun s4 s5 s6 s7 s8 s9 s10 s11=>f93.l0 L N self93 (fun z12 z13 z14 z15 z16 z17=>f93.p0_e1 L N self93 k z12 z13 z14 z15 z16 z17) L s4 s5 s6 s7 s8 s9 s10 s11) (fun s82 s83 s84 s85 s86 s87 s88=>f93.l4 L N self93 (fun z89=>f93.p4_e9 L N self93 k z89) L s82 s83 s84 s85 s86 s87 s88) x0 x1
def f93 (L N:Nat):Nat→Tree→LT→Option (LS)
 |0,_,_=>none
 |n+1,x0,x1=>f93.b L N (f93 L N n) some x0 x1
def f93.ent (L N m:Nat) (args:List AV) (vw:View) (site:Nat):Ans:=match coeD [(.st 1),(.sl (.st 1))] vw args with
 |some (d,u)=>⟨LS,f93 L N m d.1 d.2.1,fun y=>(.row site,u++[(site,some (.row 113 (.st 3) y))],[])⟩
 |none=>Ans.no
def Φ93s (L N m:Nat):Tells:=(addT (Φ133 L N) 93 (f93.ent L N m))
noncomputable def E93 (L N m:Nat):Env:={P:=Tryz.prog,ty:=tyOf,Φ:=Φ93s L N m,inl:=inlT,live:=lives,liveX:=livesX,L:=L,dp:=none,prom:=promT,heal:=healT,ren:=renT}
noncomputable def f93.c0:Code:=loopAt 1 (codeOf Tryz.f93)
def f93.X0_e1 {R:Type} (κ:KX R):=fun z12 z13 z14 z15 z16 z17=>κ (.exit 1) (f93.T0_e1 z12 z13 z14 z15 z16 z17) (f93.H0_e1 z12 z13 z14 z15 z16 z17)
def f93.R0 {R:Type} (rec:KT R):=fun s4 s5 s6 s7 s8 s9 s10 s11=>rec (f93.T0 s4 s5 s6 s7 s8 s9 s10 s11) (f93.H0 s4 s5 s6 s7 s8 s9 s10 s11)
theorem f93.s0_eq {R:Type} (L N m:Nat) (κ:KX R) (rec:KT R) (s4:Int) (s5:Int) (s6:Int) (s7:Int) (s8:LT) (s9:LS) (s10:LS) (s11:LS):
  evRd (E93 L N m) (evCallI (E93 L N m) 0 1000) 1000 93 183 1 f93.c0 κ rec (f93.T0 s4 s5 s6 s7 s8 s9 s10 s11) (f93.H0 s4 s5 s6 s7 s8 s9 s10 s11)
  =f93.s0 L N (f93 L N m) (f93.X0_e1 κ) (f93.R0 rec) s4 s5 s6 s7 s8 s9 s10 s11:=by kernel_rfl
theorem f93.l0_eq {R:Type} (L N m:Nat) (κ:KX R):∀(n:Nat) (s4:Int) (s5:Int) (s6:Int) (s7:Int) (s8:LT) (s9:LS) (s10:LS) (s11:LS),
  evLp (E93 L N m) (evCallI (E93 L N m) 0 1000) 1000 93 183 1 f93.c0 κ n (f93.T0 s4 s5 s6 s7 s8 s9 s10 s11) (f93.H0 s4 s5 s6 s7 s8 s9 s10 s11)
  =f93.l0 L N (f93 L N m) (f93.X0_e1 κ) n s4 s5 s6 s7 s8 s9 s10 s11:=by
 intro n
 induction n with
 |zero=>intros;rfl
 |succ n ih=>
  intro s4 s5 s6 s7 s8 s9 s10 s11
  rw [evLp_succ,f93.s0_eq]
  delta f93.R0
  simp only [ih]
  rfl
noncomputable def f93.c1:Code:=loopAt 3 (codeOf Tryz.f93)
def f93.X1_e3 {R:Type} (κ:KX R):=fun z27 z28 z29=>κ (.exit 3) (f93.T1_e3 z27 z28 z29) (f93.H1_e3 z27 z28 z29)
def f93.R1 {R:Type} (rec:KT R):=fun s19 s20 s21 s22 s23 s24 s25 s26=>rec (f93.T1 s19 s20 s21 s22 s23 s24 s25 s26) (f93.H1 s19 s20 s21 s22 s23 s24 s25 s26)
theorem f93.s1_eq {R:Type} (L N m:Nat) (κ:KX R) (rec:KT R) (s19:Int) (s20:Int) (s21:Int) (s22:Int) (s23:LT) (s24:LS) (s25:LS) (s26:LS):
  evRd (E93 L N m) (evCallI (E93 L N m) 0 1000) 1000 93 183 3 f93.c1 κ rec (f93.T1 s19 s20 s21 s22 s23 s24 s25 s26) (f93.H1 s19 s20 s21 s22 s23 s24 s25 s26)
  =f93.s1 L N (f93 L N m) (f93.X1_e3 κ) (f93.R1 rec) s19 s20 s21 s22 s23 s24 s25 s26:=by kernel_rfl
theorem f93.l1_eq {R:Type} (L N m:Nat) (κ:KX R):∀(n:Nat) (s19:Int) (s20:Int) (s21:Int) (s22:Int) (s23:LT) (s24:LS) (s25:LS) (s26:LS),
  evLp (E93 L N m) (evCallI (E93 L N m) 0 1000) 1000 93 183 3 f93.c1 κ n (f93.T1 s19 s20 s21 s22 s23 s24 s25 s26) (f93.H1 s19 s20 s21 s22 s23 s24 s25 s26)
  =f93.l1 L N (f93 L N m) (f93.X1_e3 κ) n s19 s20 s21 s22 s23 s24 s25 s26:=by
 intro n
 induction n with
 |zero=>intros;rfl
 |succ n ih=>
  intro s19 s20 s21 s22 s23 s24 s25 s26
  rw [evLp_succ,f93.s1_eq]
  delta f93.R1
  simp only [ih]
  rfl
noncomputable def f93.c2:Code:=loopAt 5 (codeOf Tryz.f93)
noncomputable def f93.c3:Code:=loopAt 7 f93.c2
def f93.X3_e7 {R:Type} (κ:KX R):=fun z48 z49 z50 z51 z52=>κ (.exit 7) (f93.T3_e7 z48 z49 z50 z51 z52) (f93.H3_e7 z48 z49 z50 z51 z52)
def f93.R3 {R:Type} (rec:KT R):=fun s37 s38 s39 s40 s41 s42 s43 s44 s45 s46 s47=>rec (f93.T3 s37 s38 s39 s40 s41 s42 s43 s44 s45 s46 s47) (f93.H3 s37 s38 s39 s40 s41 s42 s43 s44 s45 s46 s47)
theorem f93.s3_eq {R:Type} (L N m:Nat) (κ:KX R) (rec:KT R) (s37:Int) (s38:Int) (s39:Int) (s40:Int) (s41:Int) (s42:Int) (s43:Int) (s44:LT) (s45:LS) (s46:LS) (s47:LS):
  evRd (E93 L N m) (evCallI (E93 L N m) 0 1000) 1000 93 183 7 f93.c3 κ rec (f93.T3 s37 s38 s39 s40 s41 s42 s43 s44 s45 s46 s47) (f93.H3 s37 s38 s39 s40 s41 s42 s43 s44 s45 s46 s47)
  =f93.s3 L N (f93 L N m) (f93.X3_e7 κ) (f93.R3 rec) s37 s38 s39 s40 s41 s42 s43 s44 s45 s46 s47:=by kernel_rfl
theorem f93.l3_eq {R:Type} (L N m:Nat) (κ:KX R):∀(n:Nat) (s37:Int) (s38:Int) (s39:Int) (s40:Int) (s41:Int) (s42:Int) (s43:Int) (s44:LT) (s45:LS) (s46:LS) (s47:LS),
  evLp (E93 L N m) (evCallI (E93 L N m) 0 1000) 1000 93 183 7 f93.c3 κ n (f93.T3 s37 s38 s39 s40 s41 s42 s43 s44 s45 s46 s47) (f93.H3 s37 s38 s39 s40 s41 s42 s43 s44 s45 s46 s47)
  =f93.l3 L N (f93 L N m) (f93.X3_e7 κ) n s37 s38 s39 s40 s41 s42 s43 s44 s45 s46 s47:=by
 intro n
 induction n with
 |zero=>intros;rfl
 |succ n ih=>
  intro s37 s38 s39 s40 s41 s42 s43 s44 s45 s46 s47
  rw [evLp_succ,f93.s3_eq]
  delta f93.R3
  simp only [ih]
  rfl
def f93.X2_e5 {R:Type} (κ:KX R):=fun z36=>κ (.exit 5) (f93.T2_e5 z36) (f93.H2_e5 z36)
def f93.R2 {R:Type} (rec:KT R):=fun s31 s32 s33 s34 s35=>rec (f93.T2 s31 s32 s33 s34 s35) (f93.H2 s31 s32 s33 s34 s35)
theorem f93.p3_e7_eq {R:Type} (L N m:Nat) (κ:KX R) (rec:KT R) (z48:Int) (z49:Int) (z50:LS) (z51:LS) (z52:LS):
  (contAt (E93 L N m) (evCallI (E93 L N m) 0 1000) 1000 93 183 7 f93.c2 (rdK (E93 L N m) 1000 93 183 5 κ rec)) (.exit 7) (f93.T3_e7 z48 z49 z50 z51 z52) (f93.H3_e7 z48 z49 z50 z51 z52)
  =f93.p3_e7 L N (f93 L N m) (f93.X2_e5 κ) (f93.R2 rec) z48 z49 z50 z51 z52:=by kernel_rfl
theorem f93.s2_eq {R:Type} (L N m:Nat) (κ:KX R) (rec:KT R) (s31:Int) (s32:Int) (s33:LS) (s34:LS) (s35:LS):
  evRd (E93 L N m) (evCallI (E93 L N m) 0 1000) 1000 93 183 5 f93.c2 κ rec (f93.T2 s31 s32 s33 s34 s35) (f93.H2 s31 s32 s33 s34 s35)
  =f93.s2 L N (f93 L N m) (f93.X2_e5 κ) (f93.R2 rec) s31 s32 s33 s34 s35:=by
 refine Eq.trans (b:=f93.s2' L N (f93 L N m) (f93.X2_e5 κ) (f93.R2 rec) (fun s37 s38 s39 s40 s41 s42 s43 s44 s45 s46 s47=>evLp (E93 L N m) (evCallI (E93 L N m) 0 1000) 1000 93 183 7 f93.c3 (contAt (E93 L N m) (evCallI (E93 L N m) 0 1000) 1000 93 183 7 f93.c2 (rdK (E93 L N m) 1000 93 183 5 κ rec)) L (f93.T3 s37 s38 s39 s40 s41 s42 s43 s44 s45 s46 s47) (f93.H3 s37 s38 s39 s40 s41 s42 s43 s44 s45 s46 s47)) s31 s32 s33 s34 s35) (by kernel_rfl) ?_
 unfold f93.s2
 simp only [f93.l3_eq]
 delta f93.X3_e7
 simp only [f93.p3_e7_eq]
theorem f93.l2_eq {R:Type} (L N m:Nat) (κ:KX R):∀(n:Nat) (s31:Int) (s32:Int) (s33:LS) (s34:LS) (s35:LS),
  evLp (E93 L N m) (evCallI (E93 L N m) 0 1000) 1000 93 183 5 f93.c2 κ n (f93.T2 s31 s32 s33 s34 s35) (f93.H2 s31 s32 s33 s34 s35)
  =f93.l2 L N (f93 L N m) (f93.X2_e5 κ) n s31 s32 s33 s34 s35:=by
 intro n
 induction n with
 |zero=>intros;rfl
 |succ n ih=>
  intro s31 s32 s33 s34 s35
  rw [evLp_succ,f93.s2_eq]
  delta f93.R2
  simp only [ih]
  rfl
theorem f93.p2_e5_eq {R:Type} (L N m:Nat) (κ:List Step→Option R) (z36:LS):
  (contAt (E93 L N m) (evCallI (E93 L N m) 0 1000) 1000 93 183 5 (codeOf Tryz.f93) (finK (E93 L N m) 1000 Tryz.f93 (finRow 113 (.st 3) κ))) (.exit 5) (f93.T2_e5 z36) (f93.H2_e5 z36)
  =f93.p2_e5 L N (f93 L N m) κ z36:=by kernel_rfl
theorem f93.p1_e3_eq {R:Type} (L N m:Nat) (κ:List Step→Option R) (z27:LS) (z28:LS) (z29:LS):
  (contAt (E93 L N m) (evCallI (E93 L N m) 0 1000) 1000 93 183 3 (codeOf Tryz.f93) (finK (E93 L N m) 1000 Tryz.f93 (finRow 113 (.st 3) κ))) (.exit 3) (f93.T1_e3 z27 z28 z29) (f93.H1_e3 z27 z28 z29)
  =f93.p1_e3 L N (f93 L N m) κ z27 z28 z29:=by
 refine Eq.trans (b:=f93.p1_e3' L N (f93 L N m) κ (fun s31 s32 s33 s34 s35=>evLp (E93 L N m) (evCallI (E93 L N m) 0 1000) 1000 93 183 5 f93.c2 (contAt (E93 L N m) (evCallI (E93 L N m) 0 1000) 1000 93 183 5 (codeOf Tryz.f93) (finK (E93 L N m) 1000 Tryz.f93 (finRow 113 (.st 3) κ))) L (f93.T2 s31 s32 s33 s34 s35) (f93.H2 s31 s32 s33 s34 s35)) z27 z28 z29) (by kernel_rfl) ?_
 unfold f93.p1_e3
 simp only [f93.l2_eq]
 delta f93.X2_e5
 simp only [f93.p2_e5_eq]
theorem f93.p0_e1_eq {R:Type} (L N m:Nat) (κ:List Step→Option R) (z12:Int) (z13:Int) (z14:LT) (z15:LS) (z16:LS) (z17:LS):
  (contAt (E93 L N m) (evCallI (E93 L N m) 0 1000) 1000 93 183 1 (codeOf Tryz.f93) (finK (E93 L N m) 1000 Tryz.f93 (finRow 113 (.st 3) κ))) (.exit 1) (f93.T0_e1 z12 z13 z14 z15 z16 z17) (f93.H0_e1 z12 z13 z14 z15 z16 z17)
  =f93.p0_e1 L N (f93 L N m) κ z12 z13 z14 z15 z16 z17:=by
 refine Eq.trans (b:=f93.p0_e1' L N (f93 L N m) κ (fun s19 s20 s21 s22 s23 s24 s25 s26=>evLp (E93 L N m) (evCallI (E93 L N m) 0 1000) 1000 93 183 3 f93.c1 (contAt (E93 L N m) (evCallI (E93 L N m) 0 1000) 1000 93 183 3 (codeOf Tryz.f93) (finK (E93 L N m) 1000 Tryz.f93 (finRow 113 (.st 3) κ))) L (f93.T1 s19 s20 s21 s22 s23 s24 s25 s26) (f93.H1 s19 s20 s21 s22 s23 s24 s25 s26)) z12 z13 z14 z15 z16 z17) (by kernel_rfl) ?_
 unfold f93.p0_e1
 simp only [f93.l1_eq]
 delta f93.X1_e3
 simp only [f93.p1_e3_eq]
noncomputable def f93.c4:Code:=loopAt 9 (codeOf Tryz.f93)
def f93.X4_e9 {R:Type} (κ:KX R):=fun z89=>κ (.exit 9) (f93.T4_e9 z89) (f93.H4_e9 z89)
def f93.R4 {R:Type} (rec:KT R):=fun s82 s83 s84 s85 s86 s87 s88=>rec (f93.T4 s82 s83 s84 s85 s86 s87 s88) (f93.H4 s82 s83 s84 s85 s86 s87 s88)
theorem f93.s4_eq {R:Type} (L N m:Nat) (κ:KX R) (rec:KT R) (s82:Int) (s83:Int) (s84:Int) (s85:Int) (s86:LT) (s87:LS) (s88:LS):
  evRd (E93 L N m) (evCallI (E93 L N m) 0 1000) 1000 93 183 9 f93.c4 κ rec (f93.T4 s82 s83 s84 s85 s86 s87 s88) (f93.H4 s82 s83 s84 s85 s86 s87 s88)
  =f93.s4 L N (f93 L N m) (f93.X4_e9 κ) (f93.R4 rec) s82 s83 s84 s85 s86 s87 s88:=by kernel_rfl
theorem f93.l4_eq {R:Type} (L N m:Nat) (κ:KX R):∀(n:Nat) (s82:Int) (s83:Int) (s84:Int) (s85:Int) (s86:LT) (s87:LS) (s88:LS),
  evLp (E93 L N m) (evCallI (E93 L N m) 0 1000) 1000 93 183 9 f93.c4 κ n (f93.T4 s82 s83 s84 s85 s86 s87 s88) (f93.H4 s82 s83 s84 s85 s86 s87 s88)
  =f93.l4 L N (f93 L N m) (f93.X4_e9 κ) n s82 s83 s84 s85 s86 s87 s88:=by
 intro n
 induction n with
 |zero=>intros;rfl
 |succ n ih=>
  intro s82 s83 s84 s85 s86 s87 s88
  rw [evLp_succ,f93.s4_eq]
  delta f93.R4
  simp only [ih]
  rfl
theorem f93.p4_e9_eq {R:Type} (L N m:Nat) (κ:List Step→Option R) (z89:LS):
  (contAt (E93 L N m) (evCallI (E93 L N m) 0 1000) 1000 93 183 9 (codeOf Tryz.f93) (finK (E93 L N m) 1000 Tryz.f93 (finRow 113 (.st 3) κ))) (.exit 9) (f93.T4_e9 z89) (f93.H4_e9 z89)
  =f93.p4_e9 L N (f93 L N m) κ z89:=by kernel_rfl
theorem f93.b_eq {R:Type} (L N m:Nat) (κ:List Step→Option R) (x0:Tree) (x1:LT):
  evBody (E93 L N m) (evCallI (E93 L N m) 0 1000) 1000 93 Tryz.f93 [(.tv (.st 1) x0),(.tv (.sl (.st 1)) x1)] [] [] (finRow 113 (.st 3) κ)
  =f93.b L N (f93 L N m) κ x0 x1:=by
 refine Eq.trans (b:=f93.b' L N (f93 L N m) κ (fun s4 s5 s6 s7 s8 s9 s10 s11=>evLp (E93 L N m) (evCallI (E93 L N m) 0 1000) 1000 93 183 1 f93.c0 (contAt (E93 L N m) (evCallI (E93 L N m) 0 1000) 1000 93 183 1 (codeOf Tryz.f93) (finK (E93 L N m) 1000 Tryz.f93 (finRow 113 (.st 3) κ))) L (f93.T0 s4 s5 s6 s7 s8 s9 s10 s11) (f93.H0 s4 s5 s6 s7 s8 s9 s10 s11)) (fun s82 s83 s84 s85 s86 s87 s88=>evLp (E93 L N m) (evCallI (E93 L N m) 0 1000) 1000 93 183 9 f93.c4 (contAt (E93 L N m) (evCallI (E93 L N m) 0 1000) 1000 93 183 9 (codeOf Tryz.f93) (finK (E93 L N m) 1000 Tryz.f93 (finRow 113 (.st 3) κ))) L (f93.T4 s82 s83 s84 s85 s86 s87 s88) (f93.H4 s82 s83 s84 s85 s86 s87 s88)) x0 x1) (by kernel_rfl) ?_
 unfold f93.b
 simp only [f93.l0_eq,f93.l4_eq]
 delta f93.X0_e1 f93.X4_e9
 simp only [f93.p0_e1_eq,f93.p4_e9_eq]
theorem f93.ok (L N m:Nat) (hΦ:TellsOk Tryz.prog (Φ93s L N m)):EntOk Tryz.prog 93 (f93.ent L N (m+1)):=by
 intro args vw site h
 unfold f93.ent
 split
 ·rename_i d u ha
  intro y hy hs
  refine call_row (dep:=1000) (E:=(E93 L N m)) (sound_of hΦ) okP (callI_sound (sound_of hΦ) okP 0 1000) (f:=Tryz.f93) rfl hs ha ?_ site
  exact (f93.b_eq L N m some d.1 d.2.1).trans hy
 ·intro y hy
  cases hy
theorem Φ93s_ok (L N:Nat):∀m,TellsOk Tryz.prog (Φ93s L N m):=by
 intro m
 induction m with
 |zero=>exact (addT_ok (Φ133_ok L N) (fun args vw site h=>by unfold f93.ent;split<;>(intro y hy;cases hy)))
 |succ m ih=>exact (addT_ok (Φ133_ok L N) (f93.ok L N m ih))
def Φ93 (L N:Nat):Tells:=(addT (Φ133 L N) 93 (f93.ent L N N))
theorem Φ93_ok (L N:Nat):TellsOk Tryz.prog (Φ93 L N):=Φ93s_ok L N N
def f105_1.s0' {R:Type} (L N:Nat) (k0_e0:LI→LT→Option R) (k0_r:Bool→LI→LT→Option R) (rec0:Int→Int→LI→LT→LS→Option R) (s1:Int) (s2:Int) (s3:LI) (s4:LT) (s5:LS):Option R:=
 bif (decide (s2<s1)) then
  bif (decide (0≤s2)&&decide (s2<(s5.length:Int))) then
   (f81 L N N (Tree.mk ((listAt s5 (Ty.dflt (.st 3)) s2.toNat).thn.op) ((listAt s5 (Ty.dflt (.st 3)) s2.toNat).thn.n) ((listAt s5 (Ty.dflt (.st 3)) s2.toNat).thn.parts)) (24:Int)).bind fun y8=>
   bif (decide (y8>(24:Int))) then
    k0_r false s3 s4
   else bif (decide (s3.length+([(listAt s5 (Ty.dflt (.st 3)) s2.toNat).act]:LI).length≤lim)) then
    bif (decide (s4.length+([(Tree.mk ((listAt s5 (Ty.dflt (.st 3)) s2.toNat).thn.op) ((listAt s5 (Ty.dflt (.st 3)) s2.toNat).thn.n) ((listAt s5 (Ty.dflt (.st 3)) s2.toNat).thn.parts))]:LT).length≤lim)) then
     rec0 s1 (wi (s2+(1:Int))) (s3++([(listAt s5 (Ty.dflt (.st 3)) s2.toNat).act]:LI)) (s4++([(Tree.mk ((listAt s5 (Ty.dflt (.st 3)) s2.toNat).thn.op) ((listAt s5 (Ty.dflt (.st 3)) s2.toNat).thn.n) ((listAt s5 (Ty.dflt (.st 3)) s2.toNat).thn.parts))]:LT)) s5
    else none
   else none
  else none
 else k0_e0 s3 s4
def f105_1.s0 {R:Type} (L N:Nat) (k0_e0:LI→LT→Option R) (k0_r:Bool→LI→LT→Option R) (rec0:Int→Int→LI→LT→LS→Option R) (s1:Int) (s2:Int) (s3:LI) (s4:LT) (s5:LS):Option R:=
 f105_1.s0' L N k0_e0 k0_r rec0 s1 s2 s3 s4 s5
def f105_1.l0 {R:Type} (L N:Nat) (k0_e0:LI→LT→Option R) (k0_r:Bool→LI→LT→Option R):Nat→Int→Int→LI→LT→LS→Option R
 |0,_,_,_,_,_=>none
 |n+1,s1,s2,s3,s4,s5=>f105_1.s0 L N k0_e0 k0_r (f105_1.l0 L N k0_e0 k0_r n) s1 s2 s3 s4 s5
def f105_1.T0 (s1:Int) (s2:Int) (s3:LI) (s4:LT) (s5:LS):T:=mkT 37 [(6,(.row 1010)),(7,(.row 1011)),(14,(.row 1014)),(15,(.tv i64 s1)),(16,(.tv i64 s2))]
def f105_1.H0 (s1:Int) (s2:Int) (s3:LI) (s4:LT) (s5:LS):H:=[(1010,(.row 3 i64 s3)),(1011,(.row 25 (.st 1) s4)),(1014,(.row 113 (.st 3) s5))]
def f105_1.T0_e0 (z6:LI) (z7:LT):T:=mkT 37 [(6,(.row 1010)),(7,(.row 1011))]
def f105_1.H0_e0 (z6:LI) (z7:LT):H:=[(1010,(.row 3 i64 z6)),(1011,(.row 25 (.st 1) z7))]
def f105_1.T0_r (z9:Bool) (z10:LI) (z11:LT):T:=mkT 37 [(3,.nil),(4,.nil),(5,(.tv .bool z9)),(6,(.row 1010)),(7,(.row 1011))]
def f105_1.H0_r (z9:Bool) (z10:LI) (z11:LT):H:=[(1010,(.row 3 i64 z10)),(1011,(.row 25 (.st 1) z11))]
def f105_1.p0_e0' {R:Type} (L N:Nat) (k:LI→LT→Bool→Option R) (z6:LI) (z7:LT):Option R:=
 k z6 z7 true
def f105_1.p0_e0 {R:Type} (L N:Nat) (k:LI→LT→Bool→Option R) (z6:LI) (z7:LT):Option R:=
 f105_1.p0_e0' L N k z6 z7
def f105_1.p0_r' {R:Type} (L N:Nat) (k:LI→LT→Bool→Option R) (z9:Bool) (z10:LI) (z11:LT):Option R:=
 k [] [] z9
def f105_1.p0_r {R:Type} (L N:Nat) (k:LI→LT→Bool→Option R) (z9:Bool) (z10:LI) (z11:LT):Option R:=
 f105_1.p0_r' L N k z9 z10 z11
def f105_1.b' {R:Type} (L N:Nat) (k:LI→LT→Bool→Option R) (w0:Int→Int→LI→LT→LS→Option R) (x0:Tree) (x1:LT):Option R:=
 (f93 L N N (Tree.mk x0.op x0.n x0.parts) x1).bind fun y0=>
 w0 (y0.length:Int) (0:Int) ([]:LI) ([]:LT) y0
def f105_1.b {R:Type} (L N:Nat) (k:LI→LT→Bool→Option R) (x0:Tree) (x1:LT):Option R:=
 f105_1.b' L N k (fun s1 s2 s3 s4 s5=>f105_1.l0 L N (fun z6 z7=>f105_1.p0_e0 L N k z6 z7) (fun z9 z10 z11=>f105_1.p0_r L N k z9 z10 z11) L s1 s2 s3 s4 s5) x0 x1
def f105_1 (L N:Nat) (x0:Tree) (x1:LT):Option (LI×LT×Bool):=f105_1.b L N (fun a0 a1 a2=>some (a0,a1,a2)) x0 x1
def f105_1.ent (L N:Nat):=entDf [(.dat (.st 1)),(.imp (.sl (.st 1)) 0)] (.many [(.sl i64),(.sl (.st 1)),.bool]) fun d=>f105_1 L N d.1 d.2.1
noncomputable def E105_1 (L N:Nat):Env:={P:=Tryz.prog,ty:=tyOf,Φ:=(Φ93 L N),inl:=inlT,live:=lives,liveX:=livesX,L:=L,dp:=none,prom:=promT,heal:=healT,ren:=renT,fresh:=fun s=>Nat.beq s 1028||Nat.beq s 1033}
noncomputable def f105_1.c0:Code:=loopAt 0 (codeOf Tryz.f105)
def f105_1.X0_e0 {R:Type} (κ:KX R):=fun z6 z7=>κ (.exit 0) (f105_1.T0_e0 z6 z7) (f105_1.H0_e0 z6 z7)
def f105_1.X0_r {R:Type} (κ:KX R):=fun z9 z10 z11=>κ .ret (f105_1.T0_r z9 z10 z11) (f105_1.H0_r z9 z10 z11)
def f105_1.R0 {R:Type} (rec:KT R):=fun s1 s2 s3 s4 s5=>rec (f105_1.T0 s1 s2 s3 s4 s5) (f105_1.H0 s1 s2 s3 s4 s5)
theorem f105_1.s0_eq {R:Type} (L N:Nat) (κ:KX R) (rec:KT R) (s1:Int) (s2:Int) (s3:LI) (s4:LT) (s5:LS):
  evRd (E105_1 L N) (evCallI (E105_1 L N) 0 1000) 1000 105 37 0 f105_1.c0 κ rec (f105_1.T0 s1 s2 s3 s4 s5) (f105_1.H0 s1 s2 s3 s4 s5)
  =f105_1.s0 L N (f105_1.X0_e0 κ) (f105_1.X0_r κ) (f105_1.R0 rec) s1 s2 s3 s4 s5:=by kernel_rfl
theorem f105_1.l0_eq {R:Type} (L N:Nat) (κ:KX R):∀(n:Nat) (s1:Int) (s2:Int) (s3:LI) (s4:LT) (s5:LS),
  evLp (E105_1 L N) (evCallI (E105_1 L N) 0 1000) 1000 105 37 0 f105_1.c0 κ n (f105_1.T0 s1 s2 s3 s4 s5) (f105_1.H0 s1 s2 s3 s4 s5)
  =f105_1.l0 L N (f105_1.X0_e0 κ) (f105_1.X0_r κ) n s1 s2 s3 s4 s5:=by
 intro n
 induction n with
 |zero=>intros;rfl
 |succ n ih=>
  intro s1 s2 s3 s4 s5
  rw [evLp_succ,f105_1.s0_eq]
  delta f105_1.R0
  simp only [ih]
  rfl
theorem f105_1.p0_e0_eq {R:Type} (L N:Nat) (κ:AV→Option R) (z6:LI) (z7:LT):
  (contAt (E105_1 L N) (evCallI (E105_1 L N) 0 1000) 1000 105 37 0 (codeOf Tryz.f105) (finK (E105_1 L N) 1000 Tryz.f105 (finC (.many [(.sl i64),(.sl (.st 1)),.bool]) κ))) (.exit 0) (f105_1.T0_e0 z6 z7) (f105_1.H0_e0 z6 z7)
  =f105_1.p0_e0 L N (fun a0 a1 a2=>κ (.tup [(.tv (.sl i64) a0),(.tv (.sl (.st 1)) a1),(.tv .bool a2)])) z6 z7:=by kernel_rfl
theorem f105_1.p0_r_eq {R:Type} (L N:Nat) (κ:AV→Option R) (z9:Bool) (z10:LI) (z11:LT):
  (contAt (E105_1 L N) (evCallI (E105_1 L N) 0 1000) 1000 105 37 0 (codeOf Tryz.f105) (finK (E105_1 L N) 1000 Tryz.f105 (finC (.many [(.sl i64),(.sl (.st 1)),.bool]) κ))) .ret (f105_1.T0_r z9 z10 z11) (f105_1.H0_r z9 z10 z11)
  =f105_1.p0_r L N (fun a0 a1 a2=>κ (.tup [(.tv (.sl i64) a0),(.tv (.sl (.st 1)) a1),(.tv .bool a2)])) z9 z10 z11:=by kernel_rfl
theorem f105_1.b_eq {R:Type} (L N:Nat) (κ:AV→Option R) (x0:Tree) (x1:LT):
  evBody (E105_1 L N) (evCallI (E105_1 L N) 0 1000) 1000 105 Tryz.f105 [(.tv (.st 1) x0),(.imp (.sl (.st 1)) x1 0)] [] [] (finC (.many [(.sl i64),(.sl (.st 1)),.bool]) κ)
  =f105_1.b L N (fun a0 a1 a2=>κ (.tup [(.tv (.sl i64) a0),(.tv (.sl (.st 1)) a1),(.tv .bool a2)])) x0 x1:=by
 refine Eq.trans (b:=f105_1.b' L N (fun a0 a1 a2=>κ (.tup [(.tv (.sl i64) a0),(.tv (.sl (.st 1)) a1),(.tv .bool a2)])) (fun s1 s2 s3 s4 s5=>evLp (E105_1 L N) (evCallI (E105_1 L N) 0 1000) 1000 105 37 0 f105_1.c0 (contAt (E105_1 L N) (evCallI (E105_1 L N) 0 1000) 1000 105 37 0 (codeOf Tryz.f105) (finK (E105_1 L N) 1000 Tryz.f105 (finC (.many [(.sl i64),(.sl (.st 1)),.bool]) κ))) L (f105_1.T0 s1 s2 s3 s4 s5) (f105_1.H0 s1 s2 s3 s4 s5)) x0 x1) (by kernel_rfl) ?_
 unfold f105_1.b
 simp only [f105_1.l0_eq]
 delta f105_1.X0_e0 f105_1.X0_r
 simp only [f105_1.p0_e0_eq,f105_1.p0_r_eq]
theorem f105_1.ok (L N:Nat) (hΦ:TellsOk Tryz.prog ((Φ93 L N))):EntOkO Tryz.prog 105 (f105_1.ent L N):=entDf_ok (E:=(E105_1 L N)) (dep:=1000) (f:=Tryz.f105) (sound_of hΦ) okP (callI_sound (sound_of hΦ) okP 0 1000) rfl fun d _ hy=>(f105_1.b_eq L N (unR (.many [(.sl i64),(.sl (.st 1)),.bool])) d.1 d.2.1).trans (Eq.trans (b:=f105_1.b L N (fun a0 a1 a2=>some (a0,a1,a2)) d.1 d.2.1) (by kernel_rfl) hy)
def Φ105_1 (L N:Nat):Tells:=(addO (Φ93 L N) 105 (f105_1.ent L N))
theorem Φ105_1_ok (L N:Nat):TellsOk Tryz.prog (Φ105_1 L N):=addO_ok (Φ93_ok L N) (f105_1.ok L N (Φ93_ok L N))
def f104_1.j0' {R:Type} (L N:Nat) (k1_e2:LT→Int→LT→(List (ByteArray×Int))→LM→LLM→LLM→Option R) (k1_r:LT→Bool→Int→LT→(List (ByteArray×Int))→LM→LLM→LLM→Option R) (rec1:LT→Int→LI→LT→Int→Int→LT→(List (ByteArray×Int))→LM→LLM→LLM→Option R) (v40:LT) (v41:Int) (v42:LI) (v43:Int) (v44:Int) (v45:LT) (v46:Int) (v47:Int) (v48:LT) (v49:(List (ByteArray×Int))) (v50:LM) (v51:LLM) (v52:LLM):Option R:=
 bif (decide (0≤v43)&&decide (v43<(v42.length:Int))) then
  bif (decide (v50.length+([(Move.mk (listAt v42 (0:Int) v43.toNat) v44)]:LM).length≤lim)) then
   rec1 v40 v41 v42 v45 v46 (wi (v47+(1:Int))) v48 v49 (v50++([(Move.mk (listAt v42 (0:Int) v43.toNat) v44)]:LM)) v51 v52
  else none
 else none
def f104_1.s1' {R:Type} (L N:Nat) (k1_e2:LT→Int→LT→(List (ByteArray×Int))→LM→LLM→LLM→Option R) (k1_r:LT→Bool→Int→LT→(List (ByteArray×Int))→LM→LLM→LLM→Option R) (rec1:LT→Int→LI→LT→Int→Int→LT→(List (ByteArray×Int))→LM→LLM→LLM→Option R) (s13:LT) (s14:Int) (s15:LI) (s16:LT) (s17:Int) (s18:Int) (s19:LT) (s20:(List (ByteArray×Int))) (s21:LM) (s22:LLM) (s23:LLM):Option R:=
 bif (decide (s18<s17)) then
  bif (decide (0≤s18)&&decide (s18<(s16.length:Int))) then
   (f92 L N N (Tree.mk ((listAt s16 (Ty.dflt (.st 1)) s18.toNat).op) ((listAt s16 (Ty.dflt (.st 1)) s18.toNat).n) ((listAt s16 (Ty.dflt (.st 1)) s18.toNat).parts))).bind fun y31=>
   bif (!(Option.isSome (mapFind .str i64 y31 s20))) then
    bif ((s19.length:Int)==(60:Int)) then
     k1_r s13 false s14 s19 s20 s21 s22 s23
    else bif (decide (s19.length+([(Tree.mk ((listAt s16 (Ty.dflt (.st 1)) s18.toNat).op) ((listAt s16 (Ty.dflt (.st 1)) s18.toNat).n) ((listAt s16 (Ty.dflt (.st 1)) s18.toNat).parts))]:LT).length≤lim)) then
     f104_1.j0' L N k1_e2 k1_r rec1 s13 s14 s15 s18 (s19.length:Int) s16 s17 s18 (s19++([(Tree.mk ((listAt s16 (Ty.dflt (.st 1)) s18.toNat).op) ((listAt s16 (Ty.dflt (.st 1)) s18.toNat).n) ((listAt s16 (Ty.dflt (.st 1)) s18.toNat).parts))]:LT)) (mapPut .str i64 y31 (s19.length:Int) s20) s21 s22 s23
    else none
   else f104_1.j0' L N k1_e2 k1_r rec1 s13 s14 s15 s18 ((mapFind .str i64 y31 s20).getD (Ty.dflt i64)) s16 s17 s18 s19 s20 s21 s22 s23
  else none
 else k1_e2 s13 s14 s19 s20 s21 s22 s23
def f104_1.s1 {R:Type} (L N:Nat) (k1_e2:LT→Int→LT→(List (ByteArray×Int))→LM→LLM→LLM→Option R) (k1_r:LT→Bool→Int→LT→(List (ByteArray×Int))→LM→LLM→LLM→Option R) (rec1:LT→Int→LI→LT→Int→Int→LT→(List (ByteArray×Int))→LM→LLM→LLM→Option R) (s13:LT) (s14:Int) (s15:LI) (s16:LT) (s17:Int) (s18:Int) (s19:LT) (s20:(List (ByteArray×Int))) (s21:LM) (s22:LLM) (s23:LLM):Option R:=
 f104_1.s1' L N k1_e2 k1_r rec1 s13 s14 s15 s16 s17 s18 s19 s20 s21 s22 s23
def f104_1.l1 {R:Type} (L N:Nat) (k1_e2:LT→Int→LT→(List (ByteArray×Int))→LM→LLM→LLM→Option R) (k1_r:LT→Bool→Int→LT→(List (ByteArray×Int))→LM→LLM→LLM→Option R):Nat→LT→Int→LI→LT→Int→Int→LT→(List (ByteArray×Int))→LM→LLM→LLM→Option R
 |0,_,_,_,_,_,_,_,_,_,_,_=>none
 |n+1,s13,s14,s15,s16,s17,s18,s19,s20,s21,s22,s23=>f104_1.s1 L N k1_e2 k1_r (f104_1.l1 L N k1_e2 k1_r n) s13 s14 s15 s16 s17 s18 s19 s20 s21 s22 s23
def f104_1.T1 (s13:LT) (s14:Int) (s15:LI) (s16:LT) (s17:Int) (s18:Int) (s19:LT) (s20:(List (ByteArray×Int))) (s21:LM) (s22:LLM) (s23:LLM):T:=mkT 97 [(1,(.fn 92 [])),(2,(.fn 105 [(.imp (.sl (.st 1)) s13 0)])),(6,(.ptr 1006 0)),(8,(.row 1022)),(9,(.mp 1023)),(10,(.ptr 1010 0)),(11,(.tv i64 s14)),(12,(.tv (.sl i64) s15)),(15,(.row 1048)),(49,(.tv (.sl (.st 1)) s16)),(50,(.tv i64 s17)),(51,(.tv i64 s18))]
def f104_1.H1 (s13:LT) (s14:Int) (s15:LI) (s16:LT) (s17:Int) (s18:Int) (s19:LT) (s20:(List (ByteArray×Int))) (s21:LM) (s22:LLM) (s23:LLM):H:=[(1006,(.box [(.row 1900)])),(1010,(.box [(.row 1901)])),(1022,(.row 25 (.st 1) s19)),(1023,(.map .str i64 s20)),(1048,(.row 63 (.st 0) s21)),(1900,(.deep 0 (.sl (.st 0)) s22 none)),(1901,(.deep 0 (.sl (.st 0)) s23 none))]
def f104_1.T1_e2 (z24:LT) (z25:Int) (z26:LT) (z27:(List (ByteArray×Int))) (z28:LM) (z29:LLM) (z30:LLM):T:=mkT 97 [(1,(.fn 92 [])),(2,(.fn 105 [(.imp (.sl (.st 1)) z24 0)])),(6,(.ptr 1006 0)),(8,(.row 1022)),(9,(.mp 1023)),(10,(.ptr 1010 0)),(11,(.tv i64 z25)),(15,(.row 1048))]
def f104_1.H1_e2 (z24:LT) (z25:Int) (z26:LT) (z27:(List (ByteArray×Int))) (z28:LM) (z29:LLM) (z30:LLM):H:=[(1006,(.box [(.row 1900)])),(1010,(.box [(.row 1901)])),(1022,(.row 25 (.st 1) z26)),(1023,(.map .str i64 z27)),(1048,(.row 63 (.st 0) z28)),(1900,(.deep 0 (.sl (.st 0)) z29 none)),(1901,(.deep 0 (.sl (.st 0)) z30 none))]
def f104_1.T1_r (z32:LT) (z33:Bool) (z34:Int) (z35:LT) (z36:(List (ByteArray×Int))) (z37:LM) (z38:LLM) (z39:LLM):T:=mkT 97 [(1,(.fn 92 [])),(2,(.fn 105 [(.imp (.sl (.st 1)) z32 0)])),(6,(.ptr 1006 0)),(7,(.tv .bool z33)),(8,(.row 1022)),(9,(.mp 1023)),(10,(.ptr 1010 0)),(11,(.tv i64 z34)),(15,(.row 1048))]
def f104_1.H1_r (z32:LT) (z33:Bool) (z34:Int) (z35:LT) (z36:(List (ByteArray×Int))) (z37:LM) (z38:LLM) (z39:LLM):H:=[(1006,(.box [.nil])),(1010,(.box [(.row 1901)])),(1022,(.row 25 (.st 1) z35)),(1023,(.map .str i64 z36)),(1048,(.row 63 (.st 0) z37)),(1900,(.deep 0 (.sl (.st 0)) z38 none)),(1901,(.deep 0 (.sl (.st 0)) z39 none))]
def f104_1.p1_e2' {R:Type} (L N:Nat) (k0_e0:LLM→LLM→Option R) (k0_r:Bool→LLM→LLM→Option R) (rec0:LT→Int→LT→(List (ByteArray×Int))→LLM→LLM→Option R) (z24:LT) (z25:Int) (z26:LT) (z27:(List (ByteArray×Int))) (z28:LM) (z29:LLM) (z30:LLM):Option R:=
 ((fsortM z28)).bind fun y53=>
 bif (decide (z30.length+([(tidyM z28)]:LLM).length≤lim)) then
  rec0 z24 (wi (z25+(1:Int))) z26 z27 z29 (z30++([(tidyM z28)]:LLM))
 else none
def f104_1.p1_e2 {R:Type} (L N:Nat) (k0_e0:LLM→LLM→Option R) (k0_r:Bool→LLM→LLM→Option R) (rec0:LT→Int→LT→(List (ByteArray×Int))→LLM→LLM→Option R) (z24:LT) (z25:Int) (z26:LT) (z27:(List (ByteArray×Int))) (z28:LM) (z29:LLM) (z30:LLM):Option R:=
 f104_1.p1_e2' L N k0_e0 k0_r rec0 z24 z25 z26 z27 z28 z29 z30
def f104_1.p1_r' {R:Type} (L N:Nat) (k0_e0:LLM→LLM→Option R) (k0_r:Bool→LLM→LLM→Option R) (rec0:LT→Int→LT→(List (ByteArray×Int))→LLM→LLM→Option R) (z32:LT) (z33:Bool) (z34:Int) (z35:LT) (z36:(List (ByteArray×Int))) (z37:LM) (z38:LLM) (z39:LLM):Option R:=
 k0_r z33 z38 z39
def f104_1.p1_r {R:Type} (L N:Nat) (k0_e0:LLM→LLM→Option R) (k0_r:Bool→LLM→LLM→Option R) (rec0:LT→Int→LT→(List (ByteArray×Int))→LLM→LLM→Option R) (z32:LT) (z33:Bool) (z34:Int) (z35:LT) (z36:(List (ByteArray×Int))) (z37:LM) (z38:LLM) (z39:LLM):Option R:=
 f104_1.p1_r' L N k0_e0 k0_r rec0 z32 z33 z34 z35 z36 z37 z38 z39
def f104_1.s0' {R:Type} (L N:Nat) (k0_e0:LLM→LLM→Option R) (k0_r:Bool→LLM→LLM→Option R) (rec0:LT→Int→LT→(List (ByteArray×Int))→LLM→LLM→Option R) (w1:LT→Int→LI→LT→Int→Int→LT→(List (ByteArray×Int))→LM→LLM→LLM→Option R) (s1:LT) (s2:Int) (s3:LT) (s4:(List (ByteArray×Int))) (s5:LLM) (s6:LLM):Option R:=
 bif (decide (s2<(s3.length:Int))) then
  bif (decide (0≤s2)&&decide (s2<(s3.length:Int))) then
   (f105_1 L N (listAt s3 (Ty.dflt (.st 1)) s2.toNat) s1).bind fun y9=>
   bif (!y9.2.2) then
    k0_r false s5 s6
   else w1 s1 s2 y9.1 y9.2.1 (y9.2.1.length:Int) (0:Int) s3 s4 ([]:LM) s5 s6
  else none
 else k0_e0 s5 s6
def f104_1.s0 {R:Type} (L N:Nat) (k0_e0:LLM→LLM→Option R) (k0_r:Bool→LLM→LLM→Option R) (rec0:LT→Int→LT→(List (ByteArray×Int))→LLM→LLM→Option R) (s1:LT) (s2:Int) (s3:LT) (s4:(List (ByteArray×Int))) (s5:LLM) (s6:LLM):Option R:=
 f104_1.s0' L N k0_e0 k0_r rec0 (fun s13 s14 s15 s16 s17 s18 s19 s20 s21 s22 s23=>f104_1.l1 L N (fun z24 z25 z26 z27 z28 z29 z30=>f104_1.p1_e2 L N k0_e0 k0_r rec0 z24 z25 z26 z27 z28 z29 z30) (fun z32 z33 z34 z35 z36 z37 z38 z39=>f104_1.p1_r L N k0_e0 k0_r rec0 z32 z33 z34 z35 z36 z37 z38 z39) L s13 s14 s15 s16 s17 s18 s19 s20 s21 s22 s23) s1 s2 s3 s4 s5 s6
def f104_1.l0 {R:Type} (L N:Nat) (k0_e0:LLM→LLM→Option R) (k0_r:Bool→LLM→LLM→Option R):Nat→LT→Int→LT→(List (ByteArray×Int))→LLM→LLM→Option R
 |0,_,_,_,_,_,_=>none
 |n+1,s1,s2,s3,s4,s5,s6=>f104_1.s0 L N k0_e0 k0_r (f104_1.l0 L N k0_e0 k0_r n) s1 s2 s3 s4 s5 s6
def f104_1.T0 (s1:LT) (s2:Int) (s3:LT) (s4:(List (ByteArray×Int))) (s5:LLM) (s6:LLM):T:=mkT 97 [(1,(.fn 92 [])),(2,(.fn 105 [(.imp (.sl (.st 1)) s1 0)])),(6,(.ptr 1006 0)),(8,(.row 1022)),(9,(.mp 1023)),(10,(.ptr 1010 0)),(11,(.tv i64 s2))]
def f104_1.H0 (s1:LT) (s2:Int) (s3:LT) (s4:(List (ByteArray×Int))) (s5:LLM) (s6:LLM):H:=[(1006,(.box [(.row 1900)])),(1010,(.box [(.row 1901)])),(1022,(.row 25 (.st 1) s3)),(1023,(.map .str i64 s4)),(1900,(.deep 0 (.sl (.st 0)) s5 none)),(1901,(.deep 0 (.sl (.st 0)) s6 none))]
def f104_1.T0_e0 (z7:LLM) (z8:LLM):T:=mkT 97 [(6,(.ptr 1006 0)),(10,(.ptr 1010 0))]
def f104_1.H0_e0 (z7:LLM) (z8:LLM):H:=[(1006,(.box [(.row 1900)])),(1010,(.box [(.row 1901)])),(1900,(.deep 0 (.sl (.st 0)) z7 none)),(1901,(.deep 0 (.sl (.st 0)) z8 none))]
def f104_1.T0_r (z10:Bool) (z11:LLM) (z12:LLM):T:=mkT 97 [(6,(.ptr 1006 0)),(7,(.tv .bool z10)),(10,(.ptr 1010 0))]
def f104_1.H0_r (z10:Bool) (z11:LLM) (z12:LLM):H:=[(1006,(.box [.nil])),(1010,(.box [(.row 1901)])),(1900,(.deep 0 (.sl (.st 0)) z11 none)),(1901,(.deep 0 (.sl (.st 0)) z12 none))]
def f104_1.p0_e0' {R:Type} (L N:Nat) (k:LLM→Bool→Option R) (z7:LLM) (z8:LLM):Option R:=
 k z8 true
def f104_1.p0_e0 {R:Type} (L N:Nat) (k:LLM→Bool→Option R) (z7:LLM) (z8:LLM):Option R:=
 f104_1.p0_e0' L N k z7 z8
def f104_1.p0_r' {R:Type} (L N:Nat) (k:LLM→Bool→Option R) (z10:Bool) (z11:LLM) (z12:LLM):Option R:=
 k [] z10
def f104_1.p0_r {R:Type} (L N:Nat) (k:LLM→Bool→Option R) (z10:Bool) (z11:LLM) (z12:LLM):Option R:=
 f104_1.p0_r' L N k z10 z11 z12
def f104_1.b' {R:Type} (L N:Nat) (k:LLM→Bool→Option R) (w0:LT→Int→LT→(List (ByteArray×Int))→LLM→LLM→Option R) (x0:Tree) (x1:LT):Option R:=
 (f92 L N N (Tree.mk x0.op x0.n x0.parts)).bind fun y0=>
 w0 x1 (0:Int) ([(Tree.mk x0.op x0.n x0.parts)]:LT) (mapPut .str i64 y0 (0:Int) ([]:(List (ByteArray×Int)))) ([]:LLM) ([]:LLM)
def f104_1.b {R:Type} (L N:Nat) (k:LLM→Bool→Option R) (x0:Tree) (x1:LT):Option R:=
 f104_1.b' L N k (fun s1 s2 s3 s4 s5 s6=>f104_1.l0 L N (fun z7 z8=>f104_1.p0_e0 L N k z7 z8) (fun z10 z11 z12=>f104_1.p0_r L N k z10 z11 z12) L s1 s2 s3 s4 s5 s6) x0 x1
def f104_1 (L N:Nat) (x0:Tree) (x1:LT):Option (LLM×Bool):=f104_1.b L N (fun a0 a1=>some (a0,a1)) x0 x1
def f104_1.ent (L N:Nat) (args:List AV) (vw:View) (site:Nat):Option Ans:=match shD [(.dat (.st 1)),(.fn 92 []),(.fn 105 [(.imp (.sl (.st 1)) 0)])] vw args with
 |some d=>some ⟨LLM×Bool,f104_1 L N d.1 d.2.2.1.1,fun y=>(RN.av site (.tup (.agg []) [.bool]) ((()),(y.2,())),[(site,some (mkO (some 0) 61 (.sl (.st 0)) y.1))],[])⟩
 |none=>none
noncomputable def E104_1 (L N:Nat):Env:={P:=Tryz.prog,ty:=tyOf,Φ:=(Φ105_1 L N),inl:=inlT,live:=lives,liveX:=livesX,L:=L,dp:=(some 100),prom:=promT,heal:=healT,ren:=renT}
noncomputable def f104_1.c0:Code:=loopAt 0 (codeOf Tryz.f104)
noncomputable def f104_1.c1:Code:=loopAt 2 f104_1.c0
def f104_1.X1_e2 {R:Type} (κ:KX R):=fun z24 z25 z26 z27 z28 z29 z30=>κ (.exit 2) (f104_1.T1_e2 z24 z25 z26 z27 z28 z29 z30) (f104_1.H1_e2 z24 z25 z26 z27 z28 z29 z30)
def f104_1.X1_r {R:Type} (κ:KX R):=fun z32 z33 z34 z35 z36 z37 z38 z39=>κ .ret (f104_1.T1_r z32 z33 z34 z35 z36 z37 z38 z39) (f104_1.H1_r z32 z33 z34 z35 z36 z37 z38 z39)
def f104_1.R1 {R:Type} (rec:KT R):=fun s13 s14 s15 s16 s17 s18 s19 s20 s21 s22 s23=>rec (f104_1.T1 s13 s14 s15 s16 s17 s18 s19 s20 s21 s22 s23) (f104_1.H1 s13 s14 s15 s16 s17 s18 s19 s20 s21 s22 s23)
theorem f104_1.s1_eq {R:Type} (L N:Nat) (κ:KX R) (rec:KT R) (s13:LT) (s14:Int) (s15:LI) (s16:LT) (s17:Int) (s18:Int) (s19:LT) (s20:(List (ByteArray×Int))) (s21:LM) (s22:LLM) (s23:LLM):
  evRd (E104_1 L N) (evCallI (E104_1 L N) 0 1000) 1000 104 97 2 f104_1.c1 κ rec (f104_1.T1 s13 s14 s15 s16 s17 s18 s19 s20 s21 s22 s23) (f104_1.H1 s13 s14 s15 s16 s17 s18 s19 s20 s21 s22 s23)
  =f104_1.s1 L N (f104_1.X1_e2 κ) (f104_1.X1_r κ) (f104_1.R1 rec) s13 s14 s15 s16 s17 s18 s19 s20 s21 s22 s23:=by kernel_rfl
theorem f104_1.l1_eq {R:Type} (L N:Nat) (κ:KX R):∀(n:Nat) (s13:LT) (s14:Int) (s15:LI) (s16:LT) (s17:Int) (s18:Int) (s19:LT) (s20:(List (ByteArray×Int))) (s21:LM) (s22:LLM) (s23:LLM),
  evLp (E104_1 L N) (evCallI (E104_1 L N) 0 1000) 1000 104 97 2 f104_1.c1 κ n (f104_1.T1 s13 s14 s15 s16 s17 s18 s19 s20 s21 s22 s23) (f104_1.H1 s13 s14 s15 s16 s17 s18 s19 s20 s21 s22 s23)
  =f104_1.l1 L N (f104_1.X1_e2 κ) (f104_1.X1_r κ) n s13 s14 s15 s16 s17 s18 s19 s20 s21 s22 s23:=by
 intro n
 induction n with
 |zero=>intros;rfl
 |succ n ih=>
  intro s13 s14 s15 s16 s17 s18 s19 s20 s21 s22 s23
  rw [evLp_succ,f104_1.s1_eq]
  delta f104_1.R1
  simp only [ih]
  rfl
def f104_1.X0_e0 {R:Type} (κ:KX R):=fun z7 z8=>κ (.exit 0) (f104_1.T0_e0 z7 z8) (f104_1.H0_e0 z7 z8)
def f104_1.X0_r {R:Type} (κ:KX R):=fun z10 z11 z12=>κ .ret (f104_1.T0_r z10 z11 z12) (f104_1.H0_r z10 z11 z12)
def f104_1.R0 {R:Type} (rec:KT R):=fun s1 s2 s3 s4 s5 s6=>rec (f104_1.T0 s1 s2 s3 s4 s5 s6) (f104_1.H0 s1 s2 s3 s4 s5 s6)
theorem f104_1.p1_e2_eq {R:Type} (L N:Nat) (κ:KX R) (rec:KT R) (z24:LT) (z25:Int) (z26:LT) (z27:(List (ByteArray×Int))) (z28:LM) (z29:LLM) (z30:LLM):
  (contAt (E104_1 L N) (evCallI (E104_1 L N) 0 1000) 1000 104 97 2 f104_1.c0 (rdK (E104_1 L N) 1000 104 97 0 κ rec)) (.exit 2) (f104_1.T1_e2 z24 z25 z26 z27 z28 z29 z30) (f104_1.H1_e2 z24 z25 z26 z27 z28 z29 z30)
  =f104_1.p1_e2 L N (f104_1.X0_e0 κ) (f104_1.X0_r κ) (f104_1.R0 rec) z24 z25 z26 z27 z28 z29 z30:=by kernel_rfl
theorem f104_1.p1_r_eq {R:Type} (L N:Nat) (κ:KX R) (rec:KT R) (z32:LT) (z33:Bool) (z34:Int) (z35:LT) (z36:(List (ByteArray×Int))) (z37:LM) (z38:LLM) (z39:LLM):
  (contAt (E104_1 L N) (evCallI (E104_1 L N) 0 1000) 1000 104 97 2 f104_1.c0 (rdK (E104_1 L N) 1000 104 97 0 κ rec)) .ret (f104_1.T1_r z32 z33 z34 z35 z36 z37 z38 z39) (f104_1.H1_r z32 z33 z34 z35 z36 z37 z38 z39)
  =f104_1.p1_r L N (f104_1.X0_e0 κ) (f104_1.X0_r κ) (f104_1.R0 rec) z32 z33 z34 z35 z36 z37 z38 z39:=by kernel_rfl
theorem f104_1.s0_eq {R:Type} (L N:Nat) (κ:KX R) (rec:KT R) (s1:LT) (s2:Int) (s3:LT) (s4:(List (ByteArray×Int))) (s5:LLM) (s6:LLM):
  evRd (E104_1 L N) (evCallI (E104_1 L N) 0 1000) 1000 104 97 0 f104_1.c0 κ rec (f104_1.T0 s1 s2 s3 s4 s5 s6) (f104_1.H0 s1 s2 s3 s4 s5 s6)
  =f104_1.s0 L N (f104_1.X0_e0 κ) (f104_1.X0_r κ) (f104_1.R0 rec) s1 s2 s3 s4 s5 s6:=by
 refine Eq.trans (b:=f104_1.s0' L N (f104_1.X0_e0 κ) (f104_1.X0_r κ) (f104_1.R0 rec) (fun s13 s14 s15 s16 s17 s18 s19 s20 s21 s22 s23=>evLp (E104_1 L N) (evCallI (E104_1 L N) 0 1000) 1000 104 97 2 f104_1.c1 (contAt (E104_1 L N) (evCallI (E104_1 L N) 0 1000) 1000 104 97 2 f104_1.c0 (rdK (E104_1 L N) 1000 104 97 0 κ rec)) L (f104_1.T1 s13 s14 s15 s16 s17 s18 s19 s20 s21 s22 s23) (f104_1.H1 s13 s14 s15 s16 s17 s18 s19 s20 s21 s22 s23)) s1 s2 s3 s4 s5 s6) (by kernel_rfl) ?_
 unfold f104_1.s0
 simp only [f104_1.l1_eq]
 delta f104_1.X1_e2 f104_1.X1_r
 simp only [f104_1.p1_e2_eq,f104_1.p1_r_eq]
theorem f104_1.l0_eq {R:Type} (L N:Nat) (κ:KX R):∀(n:Nat) (s1:LT) (s2:Int) (s3:LT) (s4:(List (ByteArray×Int))) (s5:LLM) (s6:LLM),
  evLp (E104_1 L N) (evCallI (E104_1 L N) 0 1000) 1000 104 97 0 f104_1.c0 κ n (f104_1.T0 s1 s2 s3 s4 s5 s6) (f104_1.H0 s1 s2 s3 s4 s5 s6)
  =f104_1.l0 L N (f104_1.X0_e0 κ) (f104_1.X0_r κ) n s1 s2 s3 s4 s5 s6:=by
 intro n
 induction n with
 |zero=>intros;rfl
 |succ n ih=>
  intro s1 s2 s3 s4 s5 s6
  rw [evLp_succ,f104_1.s0_eq]
  delta f104_1.R0
  simp only [ih]
  rfl
theorem f104_1.p0_e0_eq {R:Type} (L N:Nat) (κ:RN.Den (.tup (.agg []) [.bool])→List LM→Option R) (z7:LLM) (z8:LLM):
  (contAt (E104_1 L N) (evCallI (E104_1 L N) 0 1000) 1000 104 97 0 (codeOf Tryz.f104) (finK (E104_1 L N) 1000 Tryz.f104 (finN (.tup (.agg []) [.bool]) (some 0) 61 (.sl (.st 0)) κ))) (.exit 0) (f104_1.T0_e0 z7 z8) (f104_1.H0_e0 z7 z8)
  =f104_1.p0_e0 L N (fun a0 a1=>κ ((()),(a1,())) a0) z7 z8:=by kernel_rfl
theorem f104_1.p0_r_eq {R:Type} (L N:Nat) (κ:RN.Den (.tup (.agg []) [.bool])→List LM→Option R) (z10:Bool) (z11:LLM) (z12:LLM):
  (contAt (E104_1 L N) (evCallI (E104_1 L N) 0 1000) 1000 104 97 0 (codeOf Tryz.f104) (finK (E104_1 L N) 1000 Tryz.f104 (finN (.tup (.agg []) [.bool]) (some 0) 61 (.sl (.st 0)) κ))) .ret (f104_1.T0_r z10 z11 z12) (f104_1.H0_r z10 z11 z12)
  =f104_1.p0_r L N (fun a0 a1=>κ ((()),(a1,())) a0) z10 z11 z12:=by kernel_rfl
theorem f104_1.b_eq {R:Type} (L N:Nat) (κ:RN.Den (.tup (.agg []) [.bool])→List LM→Option R) (x0:Tree) (x1:LT):
  evBody (E104_1 L N) (evCallI (E104_1 L N) 0 1000) 1000 104 Tryz.f104 [(.tv (.st 1) x0),(.fn 92 []),(.fn 105 [(.imp (.sl (.st 1)) x1 0)])] [] [] (finN (.tup (.agg []) [.bool]) (some 0) 61 (.sl (.st 0)) κ)
  =f104_1.b L N (fun a0 a1=>κ ((()),(a1,())) a0) x0 x1:=by
 refine Eq.trans (b:=f104_1.b' L N (fun a0 a1=>κ ((()),(a1,())) a0) (fun s1 s2 s3 s4 s5 s6=>evLp (E104_1 L N) (evCallI (E104_1 L N) 0 1000) 1000 104 97 0 f104_1.c0 (contAt (E104_1 L N) (evCallI (E104_1 L N) 0 1000) 1000 104 97 0 (codeOf Tryz.f104) (finK (E104_1 L N) 1000 Tryz.f104 (finN (.tup (.agg []) [.bool]) (some 0) 61 (.sl (.st 0)) κ))) L (f104_1.T0 s1 s2 s3 s4 s5 s6) (f104_1.H0 s1 s2 s3 s4 s5 s6)) x0 x1) (by kernel_rfl) ?_
 unfold f104_1.b
 simp only [f104_1.l0_eq]
 delta f104_1.X0_e0 f104_1.X0_r
 simp only [f104_1.p0_e0_eq,f104_1.p0_r_eq]
theorem f104_1.ok (L N:Nat) (hΦ:TellsOk Tryz.prog ((Φ105_1 L N))):EntOkO Tryz.prog 104 (f104_1.ent L N):=by
 intro args vw site h a ha
 unfold f104_1.ent at ha
 split at ha
 ·rename_i d hd
  obtain rfl:=Option.some.inj ha
  intro y hy hs
  refine call_ronF (y:=y) (dep:=1000) (E:=(E104_1 L N)) (rn:=(.tup (.agg []) [.bool])) (q:=(some 0)) (el:=61) (ty:=(.sl (.st 0))) (d1:=((()),(y.2,()))) (xs:=y.1) (κ:=(fun d xs=>some (xs,d.2.1))) (sound_of hΦ) okP (callI_sound (sound_of hΦ) okP 0 1000) (f:=Tryz.f104) rfl hs hd ?_ (fun _ _ h=>by obtain rfl:=Option.some.inj h;exact ⟨rfl,rfl⟩) rfl site
  exact (f104_1.b_eq L N (fun d xs=>some (xs,d.2.1)) d.1 d.2.2.1.1).trans (Eq.trans (b:=f104_1.b L N (fun a0 a1=>some (a0,a1)) d.1 d.2.2.1.1) (by kernel_rfl) hy)
 ·cases ha
def Φ104_1 (L N:Nat):Tells:=(addO (Φ105_1 L N) 104 (f104_1.ent L N))
theorem Φ104_1_ok (L N:Nat):TellsOk Tryz.prog (Φ104_1 L N):=addO_ok (Φ105_1_ok L N) (f104_1.ok L N (Φ105_1_ok L N))
def f65.b' {R:Type} (L N:Nat) (k:Graph→Bool→Option R) (x0:Tree) (x1:LT):Option R:=
 (f102 L N x1).bind fun y0=>
 bif (!y0) then
  k (Graph.mk []) false
 else (f103 L N (Tree.mk x0.op x0.n x0.parts) (x1.length:Int)).bind fun y1=>
 bif (!y1) then
  k (Graph.mk []) false
 else (f104_1 L N (Tree.mk x0.op x0.n x0.parts) x1).bind fun y13=>
 k (Graph.mk y13.1) y13.2
def f65.b {R:Type} (L N:Nat) (k:Graph→Bool→Option R) (x0:Tree) (x1:LT):Option R:=
 f65.b' L N k x0 x1
def f65 (L N:Nat) (x0:Tree) (x1:LT):Option (Graph×Bool):=f65.b L N (fun a0 a1=>some (a0,a1)) x0 x1
def f65.ent (L N:Nat):=entDa [(.st 1),(.sl (.st 1))] (.many [(.st 2),.bool]) fun d=>f65 L N d.1 d.2.1
noncomputable def E65 (L N:Nat):Env:={P:=Tryz.prog,ty:=tyOf,Φ:=(Φ104_1 L N),inl:=inlT,live:=lives,liveX:=livesX,L:=L,dp:=none,prom:=promT,heal:=healT,ren:=renT}
theorem f65.b_eq {R:Type} (L N:Nat) (κ:AV→Option R) (x0:Tree) (x1:LT):
  evBody (E65 L N) (evCallI (E65 L N) 0 1000) 1000 65 Tryz.f65 [(.tv (.st 1) x0),(.tv (.sl (.st 1)) x1)] [] [] (finC (.many [(.st 2),.bool]) κ)
  =f65.b L N (fun a0 a1=>κ (.tup [(.tv (.st 2) a0),(.tv .bool a1)])) x0 x1:=by kernel_rfl
theorem f65.ok (L N:Nat) (hΦ:TellsOk Tryz.prog ((Φ104_1 L N))):EntOk Tryz.prog 65 (f65.ent L N):=entDa_ok (E:=(E65 L N)) (dep:=1000) (f:=Tryz.f65) (sound_of hΦ) okP (callI_sound (sound_of hΦ) okP 0 1000) rfl fun d _ hy=>(f65.b_eq L N (unR (.many [(.st 2),.bool])) d.1 d.2.1).trans (Eq.trans (b:=f65.b L N (fun a0 a1=>some (a0,a1)) d.1 d.2.1) (by kernel_rfl) hy)
def Φ65 (L N:Nat):Tells:=(addT (Φ104_1 L N) 65 (f65.ent L N))
theorem Φ65_ok (L N:Nat):TellsOk Tryz.prog (Φ65 L N):=addT_ok (Φ104_1_ok L N) (f65.ok L N (Φ104_1_ok L N))
def f184.b' {R:Type} (L N:Nat) (k:Bool→Option R) (x0:Int):Option R:=
 k (x0 !=x0)
def f184.b {R:Type} (L N:Nat) (k:Bool→Option R) (x0:Int):Option R:=
 f184.b' L N k x0
def f184 (L N:Nat) (x0:Int):Option (Bool):=f184.b L N some x0
def f184.ent (L N:Nat):=entRo [i64] (.one .bool) fun d=>f184 L N d.1
noncomputable def E184 (L N:Nat):Env:={P:=Tryz.prog,ty:=tyOf,Φ:=(Φ65 L N),inl:=inlT,live:=lives,liveX:=livesX,L:=L,dp:=none,prom:=promT,heal:=healT,ren:=renT}
theorem f184.b_eq {R:Type} (L N:Nat) (κ:AV→Option R) (x0:Int):
  evBody (E184 L N) (evCallI (E184 L N) 0 1000) 1000 184 Tryz.f184 [(.tv i64 x0)] [] [] (finC (.one .bool) κ)
  =f184.b L N (fun a0=>κ (.tv .bool a0)) x0:=by kernel_rfl
theorem f184.ok (L N:Nat) (hΦ:TellsOk Tryz.prog ((Φ65 L N))):EntOk Tryz.prog 184 (f184.ent L N):=entRo_ok (E:=(E184 L N)) (dep:=1000) (f:=Tryz.f184) (sound_of hΦ) okP (callI_sound (sound_of hΦ) okP 0 1000) rfl rfl fun d _ hy=>(f184.b_eq L N (unR (.one .bool)) d.1).trans (Eq.trans (b:=f184.b L N some d.1) (by kernel_rfl) hy)
def Φ184 (L N:Nat):Tells:=(addT (Φ65 L N) 184 (f184.ent L N))
theorem Φ184_ok (L N:Nat):TellsOk Tryz.prog (Φ184 L N):=addT_ok (Φ65_ok L N) (f184.ok L N (Φ65_ok L N))
def f143.b' {R:Type} (L N:Nat) (k:Int→Option R) (x0:Int) (x1:Int):Option R:=
 (f184 L N x0).bind fun y0=>
 (f184 L N x1).bind fun y1=>
 bif y0 then
  bif y1 then
   k (0:Int)
  else k (-1:Int)
 else bif y1 then
  k (1:Int)
 else bif (decide (x0<x1)) then
  k (-1:Int)
 else bif (decide (x0>x1)) then
  k (1:Int)
 else k (0:Int)
def f143.b {R:Type} (L N:Nat) (k:Int→Option R) (x0:Int) (x1:Int):Option R:=
 f143.b' L N k x0 x1
def f143 (L N:Nat) (x0:Int) (x1:Int):Option (Int):=f143.b L N some x0 x1
def f143.ent (L N:Nat):=entRo [i64,i64] (.one i64) fun d=>f143 L N d.1 d.2.1
noncomputable def E143 (L N:Nat):Env:={P:=Tryz.prog,ty:=tyOf,Φ:=(Φ184 L N),inl:=inlT,live:=lives,liveX:=livesX,L:=L,dp:=none,prom:=promT,heal:=healT,ren:=renT}
theorem f143.b_eq {R:Type} (L N:Nat) (κ:AV→Option R) (x0:Int) (x1:Int):
  evBody (E143 L N) (evCallI (E143 L N) 0 1000) 1000 143 Tryz.f143 [(.tv i64 x0),(.tv i64 x1)] [] [] (finC (.one i64) κ)
  =f143.b L N (fun a0=>κ (.tv i64 a0)) x0 x1:=by kernel_rfl
theorem f143.ok (L N:Nat) (hΦ:TellsOk Tryz.prog ((Φ184 L N))):EntOk Tryz.prog 143 (f143.ent L N):=entRo_ok (E:=(E143 L N)) (dep:=1000) (f:=Tryz.f143) (sound_of hΦ) okP (callI_sound (sound_of hΦ) okP 0 1000) rfl rfl fun d _ hy=>(f143.b_eq L N (unR (.one i64)) d.1 d.2.1).trans (Eq.trans (b:=f143.b L N some d.1 d.2.1) (by kernel_rfl) hy)
def Φ143 (L N:Nat):Tells:=(addT (Φ184 L N) 143 (f143.ent L N))
theorem Φ143_ok (L N:Nat):TellsOk Tryz.prog (Φ143 L N):=addT_ok (Φ184_ok L N) (f143.ok L N (Φ184_ok L N))
def f109.b' {R:Type} (L N:Nat) (k:Int→Option R) (x0:Move) (x1:Move):Option R:=
 (f143 L N x0.act x1.act).bind fun y0=>
 bif (y0 !=(0:Int)) then
  k y0
 else (f143 L N x0.to x1.to).bind fun y1=>
 k y1
def f109.b {R:Type} (L N:Nat) (k:Int→Option R) (x0:Move) (x1:Move):Option R:=
 f109.b' L N k x0 x1
def f109 (L N:Nat) (x0:Move) (x1:Move):Option (Int):=f109.b L N some x0 x1
def f109.ent (L N:Nat):=entRo [(.st 0),(.st 0)] (.one i64) fun d=>f109 L N d.1 d.2.1
noncomputable def E109 (L N:Nat):Env:={P:=Tryz.prog,ty:=tyOf,Φ:=(Φ143 L N),inl:=inlT,live:=lives,liveX:=livesX,L:=L,dp:=none,prom:=promT,heal:=healT,ren:=renT}
theorem f109.b_eq {R:Type} (L N:Nat) (κ:AV→Option R) (x0:Move) (x1:Move):
  evBody (E109 L N) (evCallI (E109 L N) 0 1000) 1000 109 Tryz.f109 [(.tv (.st 0) x0),(.tv (.st 0) x1)] [] [] (finC (.one i64) κ)
  =f109.b L N (fun a0=>κ (.tv i64 a0)) x0 x1:=by kernel_rfl
theorem f109.ok (L N:Nat) (hΦ:TellsOk Tryz.prog ((Φ143 L N))):EntOk Tryz.prog 109 (f109.ent L N):=entRo_ok (E:=(E109 L N)) (dep:=1000) (f:=Tryz.f109) (sound_of hΦ) okP (callI_sound (sound_of hΦ) okP 0 1000) rfl rfl fun d _ hy=>(f109.b_eq L N (unR (.one i64)) d.1 d.2.1).trans (Eq.trans (b:=f109.b L N some d.1 d.2.1) (by kernel_rfl) hy)
def Φ109 (L N:Nat):Tells:=(addT (Φ143 L N) 109 (f109.ent L N))
theorem Φ109_ok (L N:Nat):TellsOk Tryz.prog (Φ109 L N):=addT_ok (Φ143_ok L N) (f109.ok L N (Φ143_ok L N))
def f106.s1' {R:Type} (L N:Nat) (k1_e2:LLM→Int→Int→LLM→Option R) (k1_r:Bool→LLM→Int→Int→LLM→Option R) (rec1:LM→LLM→Int→Int→LM→Int→Int→LLM→Option R) (s7:LM) (s8:LLM) (s9:Int) (s10:Int) (s11:LM) (s12:Int) (s13:Int) (s14:LLM):Option R:=
 bif (decide (s13<s12)) then
  bif (decide (0≤s13)&&decide (s13<(s11.length:Int))) then
   (f121 L N ((listAt s11 (Ty.dflt (.st 0)) s13.toNat).act)).bind fun y19=>
   bif (!y19) then
    k1_r false s8 s9 s10 s14
   else bif (decide ((listAt s11 (Ty.dflt (.st 0)) s13.toNat).to<(0:Int))) then
    k1_r false s8 s9 s10 s14
   else bif (decide ((listAt s11 (Ty.dflt (.st 0)) s13.toNat).to≥(s14.length:Int))) then
    k1_r false s8 s9 s10 s14
   else bif (decide (s13>(0:Int))) then
    bif (decide (0≤(wi (s13-(1:Int))))&&decide ((wi (s13-(1:Int)))<(s7.length:Int))) then
     (f109 L N (listAt s7 (Ty.dflt (.st 0)) (wi (s13-(1:Int))).toNat) (Move.mk ((listAt s11 (Ty.dflt (.st 0)) s13.toNat).act) ((listAt s11 (Ty.dflt (.st 0)) s13.toNat).to))).bind fun y20=>
     bif (decide (y20≥(0:Int))) then
      k1_r false s8 s9 s10 s14
     else rec1 s7 s8 s9 s10 s11 s12 (wi (s13+(1:Int))) s14
    else none
   else rec1 s7 s8 s9 s10 s11 s12 (wi (s13+(1:Int))) s14
  else none
 else k1_e2 s8 s9 s10 s14
def f106.s1 {R:Type} (L N:Nat) (k1_e2:LLM→Int→Int→LLM→Option R) (k1_r:Bool→LLM→Int→Int→LLM→Option R) (rec1:LM→LLM→Int→Int→LM→Int→Int→LLM→Option R) (s7:LM) (s8:LLM) (s9:Int) (s10:Int) (s11:LM) (s12:Int) (s13:Int) (s14:LLM):Option R:=
 f106.s1' L N k1_e2 k1_r rec1 s7 s8 s9 s10 s11 s12 s13 s14
def f106.l1 {R:Type} (L N:Nat) (k1_e2:LLM→Int→Int→LLM→Option R) (k1_r:Bool→LLM→Int→Int→LLM→Option R):Nat→LM→LLM→Int→Int→LM→Int→Int→LLM→Option R
 |0,_,_,_,_,_,_,_,_=>none
 |n+1,s7,s8,s9,s10,s11,s12,s13,s14=>f106.s1 L N k1_e2 k1_r (f106.l1 L N k1_e2 k1_r n) s7 s8 s9 s10 s11 s12 s13 s14
def f106.T1 (s7:LM) (s8:LLM) (s9:Int) (s10:Int) (s11:LM) (s12:Int) (s13:Int) (s14:LLM):T:=mkT 64 [(1,(.ptr 1001 0)),(4,(.tv (.sl (.st 0)) s7)),(18,(.tv (.sl (.sl (.st 0))) s8)),(19,(.tv i64 s9)),(20,(.tv i64 s10)),(24,(.tv (.sl (.st 0)) s11)),(25,(.tv i64 s12)),(26,(.tv i64 s13))]
def f106.H1 (s7:LM) (s8:LLM) (s9:Int) (s10:Int) (s11:LM) (s12:Int) (s13:Int) (s14:LLM):H:=[(1001,(.box [(.tv (.sl (.sl (.st 0))) s14)]))]
def f106.T1_e2 (z15:LLM) (z16:Int) (z17:Int) (z18:LLM):T:=mkT 64 [(1,(.ptr 1001 0)),(18,(.tv (.sl (.sl (.st 0))) z15)),(19,(.tv i64 z16)),(20,(.tv i64 z17))]
def f106.H1_e2 (z15:LLM) (z16:Int) (z17:Int) (z18:LLM):H:=[(1001,(.box [(.tv (.sl (.sl (.st 0))) z18)]))]
def f106.T1_r (z30:Bool) (z31:LLM) (z32:Int) (z33:Int) (z34:LLM):T:=mkT 64 [(1,(.ptr 1001 0)),(2,(.tv .bool z30)),(18,(.tv (.sl (.sl (.st 0))) z31)),(19,(.tv i64 z32)),(20,(.tv i64 z33))]
def f106.H1_r (z30:Bool) (z31:LLM) (z32:Int) (z33:Int) (z34:LLM):H:=[(1001,(.box [(.tv (.sl (.sl (.st 0))) z34)]))]
def f106.p1_e2' {R:Type} (L N:Nat) (k0_e0:Option R) (k0_r:Bool→Option R) (rec0:LLM→Int→Int→LLM→Option R) (z15:LLM) (z16:Int) (z17:Int) (z18:LLM):Option R:=
 rec0 z15 z16 (wi (z17+(1:Int))) z18
def f106.p1_e2 {R:Type} (L N:Nat) (k0_e0:Option R) (k0_r:Bool→Option R) (rec0:LLM→Int→Int→LLM→Option R) (z15:LLM) (z16:Int) (z17:Int) (z18:LLM):Option R:=
 f106.p1_e2' L N k0_e0 k0_r rec0 z15 z16 z17 z18
def f106.p1_r' {R:Type} (L N:Nat) (k0_e0:Option R) (k0_r:Bool→Option R) (rec0:LLM→Int→Int→LLM→Option R) (z30:Bool) (z31:LLM) (z32:Int) (z33:Int) (z34:LLM):Option R:=
 k0_r z30
def f106.p1_r {R:Type} (L N:Nat) (k0_e0:Option R) (k0_r:Bool→Option R) (rec0:LLM→Int→Int→LLM→Option R) (z30:Bool) (z31:LLM) (z32:Int) (z33:Int) (z34:LLM):Option R:=
 f106.p1_r' L N k0_e0 k0_r rec0 z30 z31 z32 z33 z34
def f106.s0' {R:Type} (L N:Nat) (k0_e0:Option R) (k0_r:Bool→Option R) (rec0:LLM→Int→Int→LLM→Option R) (w1:LM→LLM→Int→Int→LM→Int→Int→LLM→Option R) (s3:LLM) (s4:Int) (s5:Int) (s6:LLM):Option R:=
 bif (decide (s5<s4)) then
  bif (decide (0≤s5)&&decide (s5<(s3.length:Int))) then
   w1 (listAt s3 [] s5.toNat) s3 s4 s5 (listAt s3 [] s5.toNat) ((listAt s3 [] s5.toNat).length:Int) (0:Int) s6
  else none
 else k0_e0
def f106.s0 {R:Type} (L N:Nat) (k0_e0:Option R) (k0_r:Bool→Option R) (rec0:LLM→Int→Int→LLM→Option R) (s3:LLM) (s4:Int) (s5:Int) (s6:LLM):Option R:=
 f106.s0' L N k0_e0 k0_r rec0 (fun s7 s8 s9 s10 s11 s12 s13 s14=>f106.l1 L N (fun z15 z16 z17 z18=>f106.p1_e2 L N k0_e0 k0_r rec0 z15 z16 z17 z18) (fun z30 z31 z32 z33 z34=>f106.p1_r L N k0_e0 k0_r rec0 z30 z31 z32 z33 z34) L s7 s8 s9 s10 s11 s12 s13 s14) s3 s4 s5 s6
def f106.l0 {R:Type} (L N:Nat) (k0_e0:Option R) (k0_r:Bool→Option R):Nat→LLM→Int→Int→LLM→Option R
 |0,_,_,_,_=>none
 |n+1,s3,s4,s5,s6=>f106.s0 L N k0_e0 k0_r (f106.l0 L N k0_e0 k0_r n) s3 s4 s5 s6
def f106.T0 (s3:LLM) (s4:Int) (s5:Int) (s6:LLM):T:=mkT 64 [(1,(.ptr 1001 0)),(18,(.tv (.sl (.sl (.st 0))) s3)),(19,(.tv i64 s4)),(20,(.tv i64 s5))]
def f106.H0 (s3:LLM) (s4:Int) (s5:Int) (s6:LLM):H:=[(1001,(.box [(.tv (.sl (.sl (.st 0))) s6)]))]
def f106.T0_e0:T:=mkT 64 []
def f106.H0_e0:H:=[]
def f106.T0_r (z43:Bool):T:=mkT 64 [(2,(.tv .bool z43))]
def f106.H0_r (z43:Bool):H:=[]
def f106.p0_e0' {R:Type} (L N:Nat) (k:Bool→Option R):Option R:=
 k true
def f106.p0_e0 {R:Type} (L N:Nat) (k:Bool→Option R):Option R:=
 f106.p0_e0' L N k
def f106.p0_r' {R:Type} (L N:Nat) (k:Bool→Option R) (z43:Bool):Option R:=
 k z43
def f106.p0_r {R:Type} (L N:Nat) (k:Bool→Option R) (z43:Bool):Option R:=
 f106.p0_r' L N k z43
def f106.j0' {R:Type} (L N:Nat) (k:Bool→Option R) (w0:LLM→Int→Int→LLM→Option R) (v2:LLM):Option R:=
 w0 v2 (v2.length:Int) (0:Int) v2
def f106.b' {R:Type} (L N:Nat) (k:Bool→Option R) (w0:LLM→Int→Int→LLM→Option R) (x0:Graph):Option R:=
 bif (decide ((x0.moves.length:Int)<(1:Int))) then
  k false
 else bif (decide ((x0.moves.length:Int)>(60:Int))) then
  k false
 else f106.j0' L N k w0 x0.moves
def f106.b {R:Type} (L N:Nat) (k:Bool→Option R) (x0:Graph):Option R:=
 f106.b' L N k (fun s3 s4 s5 s6=>f106.l0 L N (f106.p0_e0 L N k) (fun z43=>f106.p0_r L N k z43) L s3 s4 s5 s6) x0
def f106 (L N:Nat) (x0:Graph):Option (Bool):=f106.b L N some x0
def f106.ent (L N:Nat):=entRo [(.st 2)] (.one .bool) fun d=>f106 L N d.1
noncomputable def E106 (L N:Nat):Env:={P:=Tryz.prog,ty:=tyOf,Φ:=(Φ109 L N),inl:=inlT,live:=lives,liveX:=livesX,L:=L,dp:=none,prom:=promT,heal:=healT,ren:=renT}
noncomputable def f106.c0:Code:=loopAt 0 (codeOf Tryz.f106)
noncomputable def f106.c1:Code:=loopAt 2 f106.c0
def f106.X1_e2 {R:Type} (κ:KX R):=fun z15 z16 z17 z18=>κ (.exit 2) (f106.T1_e2 z15 z16 z17 z18) (f106.H1_e2 z15 z16 z17 z18)
def f106.X1_r {R:Type} (κ:KX R):=fun z30 z31 z32 z33 z34=>κ .ret (f106.T1_r z30 z31 z32 z33 z34) (f106.H1_r z30 z31 z32 z33 z34)
def f106.R1 {R:Type} (rec:KT R):=fun s7 s8 s9 s10 s11 s12 s13 s14=>rec (f106.T1 s7 s8 s9 s10 s11 s12 s13 s14) (f106.H1 s7 s8 s9 s10 s11 s12 s13 s14)
theorem f106.s1_eq {R:Type} (L N:Nat) (κ:KX R) (rec:KT R) (s7:LM) (s8:LLM) (s9:Int) (s10:Int) (s11:LM) (s12:Int) (s13:Int) (s14:LLM):
  evRd (E106 L N) (evCallI (E106 L N) 0 1000) 1000 106 64 2 f106.c1 κ rec (f106.T1 s7 s8 s9 s10 s11 s12 s13 s14) (f106.H1 s7 s8 s9 s10 s11 s12 s13 s14)
  =f106.s1 L N (f106.X1_e2 κ) (f106.X1_r κ) (f106.R1 rec) s7 s8 s9 s10 s11 s12 s13 s14:=by kernel_rfl
theorem f106.l1_eq {R:Type} (L N:Nat) (κ:KX R):∀(n:Nat) (s7:LM) (s8:LLM) (s9:Int) (s10:Int) (s11:LM) (s12:Int) (s13:Int) (s14:LLM),
  evLp (E106 L N) (evCallI (E106 L N) 0 1000) 1000 106 64 2 f106.c1 κ n (f106.T1 s7 s8 s9 s10 s11 s12 s13 s14) (f106.H1 s7 s8 s9 s10 s11 s12 s13 s14)
  =f106.l1 L N (f106.X1_e2 κ) (f106.X1_r κ) n s7 s8 s9 s10 s11 s12 s13 s14:=by
 intro n
 induction n with
 |zero=>intros;rfl
 |succ n ih=>
  intro s7 s8 s9 s10 s11 s12 s13 s14
  rw [evLp_succ,f106.s1_eq]
  delta f106.R1
  simp only [ih]
  rfl
def f106.X0_e0 {R:Type} (κ:KX R):=κ (.exit 0) f106.T0_e0 f106.H0_e0
def f106.X0_r {R:Type} (κ:KX R):=fun z43=>κ .ret (f106.T0_r z43) (f106.H0_r z43)
def f106.R0 {R:Type} (rec:KT R):=fun s3 s4 s5 s6=>rec (f106.T0 s3 s4 s5 s6) (f106.H0 s3 s4 s5 s6)
theorem f106.p1_e2_eq {R:Type} (L N:Nat) (κ:KX R) (rec:KT R) (z15:LLM) (z16:Int) (z17:Int) (z18:LLM):
  (contAt (E106 L N) (evCallI (E106 L N) 0 1000) 1000 106 64 2 f106.c0 (rdK (E106 L N) 1000 106 64 0 κ rec)) (.exit 2) (f106.T1_e2 z15 z16 z17 z18) (f106.H1_e2 z15 z16 z17 z18)
  =f106.p1_e2 L N (f106.X0_e0 κ) (f106.X0_r κ) (f106.R0 rec) z15 z16 z17 z18:=by kernel_rfl
theorem f106.p1_r_eq {R:Type} (L N:Nat) (κ:KX R) (rec:KT R) (z30:Bool) (z31:LLM) (z32:Int) (z33:Int) (z34:LLM):
  (contAt (E106 L N) (evCallI (E106 L N) 0 1000) 1000 106 64 2 f106.c0 (rdK (E106 L N) 1000 106 64 0 κ rec)) .ret (f106.T1_r z30 z31 z32 z33 z34) (f106.H1_r z30 z31 z32 z33 z34)
  =f106.p1_r L N (f106.X0_e0 κ) (f106.X0_r κ) (f106.R0 rec) z30 z31 z32 z33 z34:=by kernel_rfl
theorem f106.s0_eq {R:Type} (L N:Nat) (κ:KX R) (rec:KT R) (s3:LLM) (s4:Int) (s5:Int) (s6:LLM):
  evRd (E106 L N) (evCallI (E106 L N) 0 1000) 1000 106 64 0 f106.c0 κ rec (f106.T0 s3 s4 s5 s6) (f106.H0 s3 s4 s5 s6)
  =f106.s0 L N (f106.X0_e0 κ) (f106.X0_r κ) (f106.R0 rec) s3 s4 s5 s6:=by
 refine Eq.trans (b:=f106.s0' L N (f106.X0_e0 κ) (f106.X0_r κ) (f106.R0 rec) (fun s7 s8 s9 s10 s11 s12 s13 s14=>evLp (E106 L N) (evCallI (E106 L N) 0 1000) 1000 106 64 2 f106.c1 (contAt (E106 L N) (evCallI (E106 L N) 0 1000) 1000 106 64 2 f106.c0 (rdK (E106 L N) 1000 106 64 0 κ rec)) L (f106.T1 s7 s8 s9 s10 s11 s12 s13 s14) (f106.H1 s7 s8 s9 s10 s11 s12 s13 s14)) s3 s4 s5 s6) (by kernel_rfl) ?_
 unfold f106.s0
 simp only [f106.l1_eq]
 delta f106.X1_e2 f106.X1_r
 simp only [f106.p1_e2_eq,f106.p1_r_eq]
theorem f106.l0_eq {R:Type} (L N:Nat) (κ:KX R):∀(n:Nat) (s3:LLM) (s4:Int) (s5:Int) (s6:LLM),
  evLp (E106 L N) (evCallI (E106 L N) 0 1000) 1000 106 64 0 f106.c0 κ n (f106.T0 s3 s4 s5 s6) (f106.H0 s3 s4 s5 s6)
  =f106.l0 L N (f106.X0_e0 κ) (f106.X0_r κ) n s3 s4 s5 s6:=by
 intro n
 induction n with
 |zero=>intros;rfl
 |succ n ih=>
  intro s3 s4 s5 s6
  rw [evLp_succ,f106.s0_eq]
  delta f106.R0
  simp only [ih]
  rfl
theorem f106.p0_e0_eq {R:Type} (L N:Nat) (κ:AV→Option R):
  (contAt (E106 L N) (evCallI (E106 L N) 0 1000) 1000 106 64 0 (codeOf Tryz.f106) (finK (E106 L N) 1000 Tryz.f106 (finC (.one .bool) κ))) (.exit 0) f106.T0_e0 f106.H0_e0
  =f106.p0_e0 L N (fun a0=>κ (.tv .bool a0)):=by kernel_rfl
theorem f106.p0_r_eq {R:Type} (L N:Nat) (κ:AV→Option R) (z43:Bool):
  (contAt (E106 L N) (evCallI (E106 L N) 0 1000) 1000 106 64 0 (codeOf Tryz.f106) (finK (E106 L N) 1000 Tryz.f106 (finC (.one .bool) κ))) .ret (f106.T0_r z43) (f106.H0_r z43)
  =f106.p0_r L N (fun a0=>κ (.tv .bool a0)) z43:=by kernel_rfl
theorem f106.b_eq {R:Type} (L N:Nat) (κ:AV→Option R) (x0:Graph):
  evBody (E106 L N) (evCallI (E106 L N) 0 1000) 1000 106 Tryz.f106 [(.tv (.st 2) x0)] [] [] (finC (.one .bool) κ)
  =f106.b L N (fun a0=>κ (.tv .bool a0)) x0:=by
 refine Eq.trans (b:=f106.b' L N (fun a0=>κ (.tv .bool a0)) (fun s3 s4 s5 s6=>evLp (E106 L N) (evCallI (E106 L N) 0 1000) 1000 106 64 0 f106.c0 (contAt (E106 L N) (evCallI (E106 L N) 0 1000) 1000 106 64 0 (codeOf Tryz.f106) (finK (E106 L N) 1000 Tryz.f106 (finC (.one .bool) κ))) L (f106.T0 s3 s4 s5 s6) (f106.H0 s3 s4 s5 s6)) x0) (by kernel_rfl) ?_
 unfold f106.b
 simp only [f106.l0_eq]
 delta f106.X0_e0 f106.X0_r
 simp only [f106.p0_e0_eq,f106.p0_r_eq]
theorem f106.ok (L N:Nat) (hΦ:TellsOk Tryz.prog ((Φ109 L N))):EntOk Tryz.prog 106 (f106.ent L N):=entRo_ok (E:=(E106 L N)) (dep:=1000) (f:=Tryz.f106) (sound_of hΦ) okP (callI_sound (sound_of hΦ) okP 0 1000) rfl rfl fun d _ hy=>(f106.b_eq L N (unR (.one .bool)) d.1).trans (Eq.trans (b:=f106.b L N some d.1) (by kernel_rfl) hy)
def Φ106 (L N:Nat):Tells:=(addT (Φ109 L N) 106 (f106.ent L N))
theorem Φ106_ok (L N:Nat):TellsOk Tryz.prog (Φ106 L N):=addT_ok (Φ109_ok L N) (f106.ok L N (Φ109_ok L N))
def f107.s0' {R:Type} (L N:Nat) (k0_e0:LM→Option R) (rec0:Int→LM→Int→Int→LM→Option R) (s0:Int) (s1:LM) (s2:Int) (s3:Int) (s4:LM):Option R:=
 bif (decide (s3<s2)) then
  bif (decide (0≤s3)&&decide (s3<(s1.length:Int))) then
   bif (decide (s4.length+([(Move.mk ((listAt s1 (Ty.dflt (.st 0)) s3.toNat).act) (wi ((listAt s1 (Ty.dflt (.st 0)) s3.toNat).to+s0)))]:LM).length≤lim)) then
    rec0 s0 s1 s2 (wi (s3+(1:Int))) (s4++([(Move.mk ((listAt s1 (Ty.dflt (.st 0)) s3.toNat).act) (wi ((listAt s1 (Ty.dflt (.st 0)) s3.toNat).to+s0)))]:LM))
   else none
  else none
 else k0_e0 s4
def f107.s0 {R:Type} (L N:Nat) (k0_e0:LM→Option R) (rec0:Int→LM→Int→Int→LM→Option R) (s0:Int) (s1:LM) (s2:Int) (s3:Int) (s4:LM):Option R:=
 f107.s0' L N k0_e0 rec0 s0 s1 s2 s3 s4
def f107.l0 {R:Type} (L N:Nat) (k0_e0:LM→Option R):Nat→Int→LM→Int→Int→LM→Option R
 |0,_,_,_,_,_=>none
 |n+1,s0,s1,s2,s3,s4=>f107.s0 L N k0_e0 (f107.l0 L N k0_e0 n) s0 s1 s2 s3 s4
def f107.T0 (s0:Int) (s1:LM) (s2:Int) (s3:Int) (s4:LM):T:=mkT 27 [(1,(.tv i64 s0)),(5,(.row 1008)),(9,(.tv (.sl (.st 0)) s1)),(10,(.tv i64 s2)),(11,(.tv i64 s3))]
def f107.H0 (s0:Int) (s1:LM) (s2:Int) (s3:Int) (s4:LM):H:=[(1008,(.row 63 (.st 0) s4))]
def f107.T0_e0 (z5:LM):T:=mkT 27 [(5,(.row 1008))]
def f107.H0_e0 (z5:LM):H:=[(1008,(.row 63 (.st 0) z5))]
def f107.p0_e0' {R:Type} (L N:Nat) (k:LM→Option R) (z5:LM):Option R:=
 k z5
def f107.p0_e0 {R:Type} (L N:Nat) (k:LM→Option R) (z5:LM):Option R:=
 f107.p0_e0' L N k z5
def f107.b' {R:Type} (L N:Nat) (k:LM→Option R) (w0:Int→LM→Int→Int→LM→Option R) (x0:LM) (x1:Int):Option R:=
 w0 x1 x0 (x0.length:Int) (0:Int) ([]:LM)
def f107.b {R:Type} (L N:Nat) (k:LM→Option R) (x0:LM) (x1:Int):Option R:=
 f107.b' L N k (fun s0 s1 s2 s3 s4=>f107.l0 L N (fun z5=>f107.p0_e0 L N k z5) L s0 s1 s2 s3 s4) x0 x1
def f107 (L N:Nat) (x0:LM) (x1:Int):Option (LM):=f107.b L N some x0 x1
def f107.ent (L N:Nat):=entDa [(.sl (.st 0)),i64] (.one (.sl (.st 0))) fun d=>f107 L N d.1 d.2.1
noncomputable def E107 (L N:Nat):Env:={P:=Tryz.prog,ty:=tyOf,Φ:=(Φ106 L N),inl:=inlT,live:=lives,liveX:=livesX,L:=L,dp:=none,prom:=promT,heal:=healT,ren:=renT}
noncomputable def f107.c0:Code:=loopAt 0 (codeOf Tryz.f107)
def f107.X0_e0 {R:Type} (κ:KX R):=fun z5=>κ (.exit 0) (f107.T0_e0 z5) (f107.H0_e0 z5)
def f107.R0 {R:Type} (rec:KT R):=fun s0 s1 s2 s3 s4=>rec (f107.T0 s0 s1 s2 s3 s4) (f107.H0 s0 s1 s2 s3 s4)
theorem f107.s0_eq {R:Type} (L N:Nat) (κ:KX R) (rec:KT R) (s0:Int) (s1:LM) (s2:Int) (s3:Int) (s4:LM):
  evRd (E107 L N) (evCallI (E107 L N) 0 1000) 1000 107 27 0 f107.c0 κ rec (f107.T0 s0 s1 s2 s3 s4) (f107.H0 s0 s1 s2 s3 s4)
  =f107.s0 L N (f107.X0_e0 κ) (f107.R0 rec) s0 s1 s2 s3 s4:=by kernel_rfl
theorem f107.l0_eq {R:Type} (L N:Nat) (κ:KX R):∀(n:Nat) (s0:Int) (s1:LM) (s2:Int) (s3:Int) (s4:LM),
  evLp (E107 L N) (evCallI (E107 L N) 0 1000) 1000 107 27 0 f107.c0 κ n (f107.T0 s0 s1 s2 s3 s4) (f107.H0 s0 s1 s2 s3 s4)
  =f107.l0 L N (f107.X0_e0 κ) n s0 s1 s2 s3 s4:=by
 intro n
 induction n with
 |zero=>intros;rfl
 |succ n ih=>
  intro s0 s1 s2 s3 s4
  rw [evLp_succ,f107.s0_eq]
  delta f107.R0
  simp only [ih]
  rfl
theorem f107.p0_e0_eq {R:Type} (L N:Nat) (κ:AV→Option R) (z5:LM):
  (contAt (E107 L N) (evCallI (E107 L N) 0 1000) 1000 107 27 0 (codeOf Tryz.f107) (finK (E107 L N) 1000 Tryz.f107 (finC (.one (.sl (.st 0))) κ))) (.exit 0) (f107.T0_e0 z5) (f107.H0_e0 z5)
  =f107.p0_e0 L N (fun a0=>κ (.tv (.sl (.st 0)) a0)) z5:=by kernel_rfl
theorem f107.b_eq {R:Type} (L N:Nat) (κ:AV→Option R) (x0:LM) (x1:Int):
  evBody (E107 L N) (evCallI (E107 L N) 0 1000) 1000 107 Tryz.f107 [(.tv (.sl (.st 0)) x0),(.tv i64 x1)] [] [] (finC (.one (.sl (.st 0))) κ)
  =f107.b L N (fun a0=>κ (.tv (.sl (.st 0)) a0)) x0 x1:=by
 refine Eq.trans (b:=f107.b' L N (fun a0=>κ (.tv (.sl (.st 0)) a0)) (fun s0 s1 s2 s3 s4=>evLp (E107 L N) (evCallI (E107 L N) 0 1000) 1000 107 27 0 f107.c0 (contAt (E107 L N) (evCallI (E107 L N) 0 1000) 1000 107 27 0 (codeOf Tryz.f107) (finK (E107 L N) 1000 Tryz.f107 (finC (.one (.sl (.st 0))) κ))) L (f107.T0 s0 s1 s2 s3 s4) (f107.H0 s0 s1 s2 s3 s4)) x0 x1) (by kernel_rfl) ?_
 unfold f107.b
 simp only [f107.l0_eq]
 delta f107.X0_e0
 simp only [f107.p0_e0_eq]
theorem f107.ok (L N:Nat) (hΦ:TellsOk Tryz.prog ((Φ106 L N))):EntOk Tryz.prog 107 (f107.ent L N):=entDa_ok (E:=(E107 L N)) (dep:=1000) (f:=Tryz.f107) (sound_of hΦ) okP (callI_sound (sound_of hΦ) okP 0 1000) rfl fun d _ hy=>(f107.b_eq L N (unR (.one (.sl (.st 0)))) d.1 d.2.1).trans (Eq.trans (b:=f107.b L N some d.1 d.2.1) (by kernel_rfl) hy)
def Φ107 (L N:Nat):Tells:=(addT (Φ106 L N) 107 (f107.ent L N))
theorem Φ107_ok (L N:Nat):TellsOk Tryz.prog (Φ107 L N):=addT_ok (Φ106_ok L N) (f107.ok L N (Φ106_ok L N))
def f66.s0' {R:Type} (L N:Nat) (k0_e0:LLM→LLM→LLM→Option R) (rec0:LLM→Int→Int→LLM→LLM→LLM→Option R) (s7:LLM) (s8:Int) (s9:Int) (s10:LLM) (s11:LLM) (s12:LLM):Option R:=
 bif (decide (s9<s8)) then
  bif (decide (0≤s9)&&decide (s9<(s7.length:Int))) then
   (f107 L N (listAt s7 [] s9.toNat) (0:Int)).bind fun y16=>
   bif (decide (s12.length+([y16]:LLM).length≤lim)) then
    rec0 s7 s8 (wi (s9+(1:Int))) s10 s11 (s12++([y16]:LLM))
   else none
  else none
 else k0_e0 s10 s11 s12
def f66.s0 {R:Type} (L N:Nat) (k0_e0:LLM→LLM→LLM→Option R) (rec0:LLM→Int→Int→LLM→LLM→LLM→Option R) (s7:LLM) (s8:Int) (s9:Int) (s10:LLM) (s11:LLM) (s12:LLM):Option R:=
 f66.s0' L N k0_e0 rec0 s7 s8 s9 s10 s11 s12
def f66.l0 {R:Type} (L N:Nat) (k0_e0:LLM→LLM→LLM→Option R):Nat→LLM→Int→Int→LLM→LLM→LLM→Option R
 |0,_,_,_,_,_,_=>none
 |n+1,s7,s8,s9,s10,s11,s12=>f66.s0 L N k0_e0 (f66.l0 L N k0_e0 n) s7 s8 s9 s10 s11 s12
def f66.T0 (s7:LLM) (s8:Int) (s9:Int) (s10:LLM) (s11:LLM) (s12:LLM):T:=mkT 65 [(2,(.ptr 1002 0)),(3,(.ptr 1003 0)),(4,(.ptr 1004 0)),(6,(.ptr 1006 0)),(32,(.tv (.sl (.sl (.st 0))) s7)),(33,(.tv i64 s8)),(34,(.tv i64 s9))]
def f66.H0 (s7:LLM) (s8:Int) (s9:Int) (s10:LLM) (s11:LLM) (s12:LLM):H:=[(1002,(.box [(.tv (.sl (.sl (.st 0))) s10)])),(1003,(.box [(.tv (.sl (.sl (.st 0))) s11)])),(1004,(.box [.nil])),(1006,(.box [(.row 1900)])),(1900,(.row 61 (.sl (.st 0)) s12))]
def f66.T0_e0 (z13:LLM) (z14:LLM) (z15:LLM):T:=mkT 65 [(2,(.ptr 1002 0)),(3,(.ptr 1003 0)),(4,(.ptr 1004 0)),(6,(.ptr 1006 0))]
def f66.H0_e0 (z13:LLM) (z14:LLM) (z15:LLM):H:=[(1002,(.box [(.tv (.sl (.sl (.st 0))) z13)])),(1003,(.box [(.tv (.sl (.sl (.st 0))) z14)])),(1004,(.box [.nil])),(1006,(.box [(.row 1900)])),(1900,(.row 61 (.sl (.st 0)) z15))]
def f66.s1' {R:Type} (L N:Nat) (k1_e2:LLM→Option R) (rec1:LLM→Int→Int→LLM→LLM→Option R) (s17:LLM) (s18:Int) (s19:Int) (s20:LLM) (s21:LLM):Option R:=
 bif (decide (s19<s18)) then
  bif (decide (0≤s19)&&decide (s19<(s17.length:Int))) then
   (f107 L N (listAt s17 [] s19.toNat) (s20.length:Int)).bind fun y23=>
   bif (decide (s21.length+([y23]:LLM).length≤lim)) then
    rec1 s17 s18 (wi (s19+(1:Int))) s20 (s21++([y23]:LLM))
   else none
  else none
 else k1_e2 s21
def f66.s1 {R:Type} (L N:Nat) (k1_e2:LLM→Option R) (rec1:LLM→Int→Int→LLM→LLM→Option R) (s17:LLM) (s18:Int) (s19:Int) (s20:LLM) (s21:LLM):Option R:=
 f66.s1' L N k1_e2 rec1 s17 s18 s19 s20 s21
def f66.l1 {R:Type} (L N:Nat) (k1_e2:LLM→Option R):Nat→LLM→Int→Int→LLM→LLM→Option R
 |0,_,_,_,_,_=>none
 |n+1,s17,s18,s19,s20,s21=>f66.s1 L N k1_e2 (f66.l1 L N k1_e2 n) s17 s18 s19 s20 s21
def f66.T1 (s17:LLM) (s18:Int) (s19:Int) (s20:LLM) (s21:LLM):T:=mkT 65 [(2,(.ptr 1002 0)),(4,(.ptr 1004 0)),(6,(.ptr 1006 0)),(47,(.tv (.sl (.sl (.st 0))) s17)),(48,(.tv i64 s18)),(49,(.tv i64 s19))]
def f66.H1 (s17:LLM) (s18:Int) (s19:Int) (s20:LLM) (s21:LLM):H:=[(1002,(.box [(.tv (.sl (.sl (.st 0))) s20)])),(1004,(.box [.nil])),(1006,(.box [(.row 1900)])),(1900,(.row 61 (.sl (.st 0)) s21))]
def f66.T1_e2 (z22:LLM):T:=mkT 65 [(4,(.ptr 1004 0)),(6,(.ptr 1006 0))]
def f66.H1_e2 (z22:LLM):H:=[(1004,(.box [.nil])),(1006,(.box [(.row 1900)])),(1900,(.row 61 (.sl (.st 0)) z22))]
def f66.p1_e2' {R:Type} (L N:Nat) (k:Graph→Bool→Option R) (z22:LLM):Option R:=
 k (Graph.mk z22) true
def f66.p1_e2 {R:Type} (L N:Nat) (k:Graph→Bool→Option R) (z22:LLM):Option R:=
 f66.p1_e2' L N k z22
def f66.p0_e0' {R:Type} (L N:Nat) (k:Graph→Bool→Option R) (w1:LLM→Int→Int→LLM→LLM→Option R) (z13:LLM) (z14:LLM) (z15:LLM):Option R:=
 w1 z14 (z14.length:Int) (0:Int) z13 z15
def f66.p0_e0 {R:Type} (L N:Nat) (k:Graph→Bool→Option R) (z13:LLM) (z14:LLM) (z15:LLM):Option R:=
 f66.p0_e0' L N k (fun s17 s18 s19 s20 s21=>f66.l1 L N (fun z22=>f66.p1_e2 L N k z22) L s17 s18 s19 s20 s21) z13 z14 z15
def f66.j0' {R:Type} (L N:Nat) (k:Graph→Bool→Option R) (w0:LLM→Int→Int→LLM→LLM→LLM→Option R) (v5:LLM) (v6:LLM):Option R:=
 w0 v5 (v5.length:Int) (0:Int) v5 v6 ([]:LLM)
def f66.b' {R:Type} (L N:Nat) (k:Graph→Bool→Option R) (w0:LLM→Int→Int→LLM→LLM→LLM→Option R) (x0:Graph) (x1:Graph):Option R:=
 (f106 L N (Graph.mk x0.moves)).bind fun y0=>
 bif (!y0) then
  k (Graph.mk []) false
 else (f106 L N (Graph.mk x1.moves)).bind fun y1=>
 bif (!y1) then
  k (Graph.mk []) false
 else bif (decide ((wi ((x0.moves.length:Int)+(x1.moves.length:Int)))>(60:Int))) then
  k (Graph.mk []) false
 else f66.j0' L N k w0 x0.moves x1.moves
def f66.b {R:Type} (L N:Nat) (k:Graph→Bool→Option R) (x0:Graph) (x1:Graph):Option R:=
 f66.b' L N k (fun s7 s8 s9 s10 s11 s12=>f66.l0 L N (fun z13 z14 z15=>f66.p0_e0 L N k z13 z14 z15) L s7 s8 s9 s10 s11 s12) x0 x1
def f66 (L N:Nat) (x0:Graph) (x1:Graph):Option (Graph×Bool):=f66.b L N (fun a0 a1=>some (a0,a1)) x0 x1
def f66.ent (L N:Nat):=entDa [(.st 2),(.st 2)] (.many [(.st 2),.bool]) fun d=>f66 L N d.1 d.2.1
noncomputable def E66 (L N:Nat):Env:={P:=Tryz.prog,ty:=tyOf,Φ:=(Φ107 L N),inl:=inlT,live:=lives,liveX:=livesX,L:=L,dp:=none,prom:=promT,heal:=healT,ren:=renT}
noncomputable def f66.c0:Code:=loopAt 0 (codeOf Tryz.f66)
def f66.X0_e0 {R:Type} (κ:KX R):=fun z13 z14 z15=>κ (.exit 0) (f66.T0_e0 z13 z14 z15) (f66.H0_e0 z13 z14 z15)
def f66.R0 {R:Type} (rec:KT R):=fun s7 s8 s9 s10 s11 s12=>rec (f66.T0 s7 s8 s9 s10 s11 s12) (f66.H0 s7 s8 s9 s10 s11 s12)
theorem f66.s0_eq {R:Type} (L N:Nat) (κ:KX R) (rec:KT R) (s7:LLM) (s8:Int) (s9:Int) (s10:LLM) (s11:LLM) (s12:LLM):
  evRd (E66 L N) (evCallI (E66 L N) 0 1000) 1000 66 65 0 f66.c0 κ rec (f66.T0 s7 s8 s9 s10 s11 s12) (f66.H0 s7 s8 s9 s10 s11 s12)
  =f66.s0 L N (f66.X0_e0 κ) (f66.R0 rec) s7 s8 s9 s10 s11 s12:=by kernel_rfl
theorem f66.l0_eq {R:Type} (L N:Nat) (κ:KX R):∀(n:Nat) (s7:LLM) (s8:Int) (s9:Int) (s10:LLM) (s11:LLM) (s12:LLM),
  evLp (E66 L N) (evCallI (E66 L N) 0 1000) 1000 66 65 0 f66.c0 κ n (f66.T0 s7 s8 s9 s10 s11 s12) (f66.H0 s7 s8 s9 s10 s11 s12)
  =f66.l0 L N (f66.X0_e0 κ) n s7 s8 s9 s10 s11 s12:=by
 intro n
 induction n with
 |zero=>intros;rfl
 |succ n ih=>
  intro s7 s8 s9 s10 s11 s12
  rw [evLp_succ,f66.s0_eq]
  delta f66.R0
  simp only [ih]
  rfl
noncomputable def f66.c1:Code:=loopAt 2 (codeOf Tryz.f66)
def f66.X1_e2 {R:Type} (κ:KX R):=fun z22=>κ (.exit 2) (f66.T1_e2 z22) (f66.H1_e2 z22)
def f66.R1 {R:Type} (rec:KT R):=fun s17 s18 s19 s20 s21=>rec (f66.T1 s17 s18 s19 s20 s21) (f66.H1 s17 s18 s19 s20 s21)
theorem f66.s1_eq {R:Type} (L N:Nat) (κ:KX R) (rec:KT R) (s17:LLM) (s18:Int) (s19:Int) (s20:LLM) (s21:LLM):
  evRd (E66 L N) (evCallI (E66 L N) 0 1000) 1000 66 65 2 f66.c1 κ rec (f66.T1 s17 s18 s19 s20 s21) (f66.H1 s17 s18 s19 s20 s21)
  =f66.s1 L N (f66.X1_e2 κ) (f66.R1 rec) s17 s18 s19 s20 s21:=by kernel_rfl
theorem f66.l1_eq {R:Type} (L N:Nat) (κ:KX R):∀(n:Nat) (s17:LLM) (s18:Int) (s19:Int) (s20:LLM) (s21:LLM),
  evLp (E66 L N) (evCallI (E66 L N) 0 1000) 1000 66 65 2 f66.c1 κ n (f66.T1 s17 s18 s19 s20 s21) (f66.H1 s17 s18 s19 s20 s21)
  =f66.l1 L N (f66.X1_e2 κ) n s17 s18 s19 s20 s21:=by
 intro n
 induction n with
 |zero=>intros;rfl
 |succ n ih=>
  intro s17 s18 s19 s20 s21
  rw [evLp_succ,f66.s1_eq]
  delta f66.R1
  simp only [ih]
  rfl
theorem f66.p1_e2_eq {R:Type} (L N:Nat) (κ:AV→Option R) (z22:LLM):
  (contAt (E66 L N) (evCallI (E66 L N) 0 1000) 1000 66 65 2 (codeOf Tryz.f66) (finK (E66 L N) 1000 Tryz.f66 (finC (.many [(.st 2),.bool]) κ))) (.exit 2) (f66.T1_e2 z22) (f66.H1_e2 z22)
  =f66.p1_e2 L N (fun a0 a1=>κ (.tup [(.tv (.st 2) a0),(.tv .bool a1)])) z22:=by kernel_rfl
theorem f66.p0_e0_eq {R:Type} (L N:Nat) (κ:AV→Option R) (z13:LLM) (z14:LLM) (z15:LLM):
  (contAt (E66 L N) (evCallI (E66 L N) 0 1000) 1000 66 65 0 (codeOf Tryz.f66) (finK (E66 L N) 1000 Tryz.f66 (finC (.many [(.st 2),.bool]) κ))) (.exit 0) (f66.T0_e0 z13 z14 z15) (f66.H0_e0 z13 z14 z15)
  =f66.p0_e0 L N (fun a0 a1=>κ (.tup [(.tv (.st 2) a0),(.tv .bool a1)])) z13 z14 z15:=by
 refine Eq.trans (b:=f66.p0_e0' L N (fun a0 a1=>κ (.tup [(.tv (.st 2) a0),(.tv .bool a1)])) (fun s17 s18 s19 s20 s21=>evLp (E66 L N) (evCallI (E66 L N) 0 1000) 1000 66 65 2 f66.c1 (contAt (E66 L N) (evCallI (E66 L N) 0 1000) 1000 66 65 2 (codeOf Tryz.f66) (finK (E66 L N) 1000 Tryz.f66 (finC (.many [(.st 2),.bool]) κ))) L (f66.T1 s17 s18 s19 s20 s21) (f66.H1 s17 s18 s19 s20 s21)) z13 z14 z15) (by kernel_rfl) ?_
 unfold f66.p0_e0
 simp only [f66.l1_eq]
 delta f66.X1_e2
 simp only [f66.p1_e2_eq]
theorem f66.b_eq {R:Type} (L N:Nat) (κ:AV→Option R) (x0:Graph) (x1:Graph):
  evBody (E66 L N) (evCallI (E66 L N) 0 1000) 1000 66 Tryz.f66 [(.tv (.st 2) x0),(.tv (.st 2) x1)] [] [] (finC (.many [(.st 2),.bool]) κ)
  =f66.b L N (fun a0 a1=>κ (.tup [(.tv (.st 2) a0),(.tv .bool a1)])) x0 x1:=by
 refine Eq.trans (b:=f66.b' L N (fun a0 a1=>κ (.tup [(.tv (.st 2) a0),(.tv .bool a1)])) (fun s7 s8 s9 s10 s11 s12=>evLp (E66 L N) (evCallI (E66 L N) 0 1000) 1000 66 65 0 f66.c0 (contAt (E66 L N) (evCallI (E66 L N) 0 1000) 1000 66 65 0 (codeOf Tryz.f66) (finK (E66 L N) 1000 Tryz.f66 (finC (.many [(.st 2),.bool]) κ))) L (f66.T0 s7 s8 s9 s10 s11 s12) (f66.H0 s7 s8 s9 s10 s11 s12)) x0 x1) (by kernel_rfl) ?_
 unfold f66.b
 simp only [f66.l0_eq]
 delta f66.X0_e0
 simp only [f66.p0_e0_eq]
theorem f66.ok (L N:Nat) (hΦ:TellsOk Tryz.prog ((Φ107 L N))):EntOk Tryz.prog 66 (f66.ent L N):=entDa_ok (E:=(E66 L N)) (dep:=1000) (f:=Tryz.f66) (sound_of hΦ) okP (callI_sound (sound_of hΦ) okP 0 1000) rfl fun d _ hy=>(f66.b_eq L N (unR (.many [(.st 2),.bool])) d.1 d.2.1).trans (Eq.trans (b:=f66.b L N (fun a0 a1=>some (a0,a1)) d.1 d.2.1) (by kernel_rfl) hy)
def Φ66 (L N:Nat):Tells:=(addT (Φ107 L N) 66 (f66.ent L N))
theorem Φ66_ok (L N:Nat):TellsOk Tryz.prog (Φ66 L N):=addT_ok (Φ107_ok L N) (f66.ok L N (Φ107_ok L N))
def f35.b' {R:Type} (L N:Nat) (k:Graph→Int→Bool→Option R) (x0:Tree) (x1:Tree) (x2:LT):Option R:=
 (f65 L N (Tree.mk x0.op x0.n x0.parts) x2).bind fun y0=>
 (f65 L N (Tree.mk x1.op x1.n x1.parts) x2).bind fun y1=>
 bif (!y0.2) then
  k (Graph.mk []) (0:Int) false
 else bif (!y1.2) then
  k (Graph.mk []) (0:Int) false
 else (f66 L N (Graph.mk y0.1.moves) (Graph.mk y1.1.moves)).bind fun y9=>
 k (Graph.mk ((Graph.mk y9.1.moves).moves)) (y0.1.moves.length:Int) y9.2
def f35.b {R:Type} (L N:Nat) (k:Graph→Int→Bool→Option R) (x0:Tree) (x1:Tree) (x2:LT):Option R:=
 f35.b' L N k x0 x1 x2
def f35 (L N:Nat) (x0:Tree) (x1:Tree) (x2:LT):Option (Graph×Int×Bool):=f35.b L N (fun a0 a1 a2=>some (a0,a1,a2)) x0 x1 x2
def f35.ent (L N:Nat):=entDa [(.st 1),(.st 1),(.sl (.st 1))] (.many [(.st 2),i64,.bool]) fun d=>f35 L N d.1 d.2.1 d.2.2.1
noncomputable def E35 (L N:Nat):Env:={P:=Tryz.prog,ty:=tyOf,Φ:=(Φ66 L N),inl:=inlT,live:=lives,liveX:=livesX,L:=L,dp:=none,prom:=promT,heal:=healT,ren:=renT}
theorem f35.b_eq {R:Type} (L N:Nat) (κ:AV→Option R) (x0:Tree) (x1:Tree) (x2:LT):
  evBody (E35 L N) (evCallI (E35 L N) 0 1000) 1000 35 Tryz.f35 [(.tv (.st 1) x0),(.tv (.st 1) x1),(.tv (.sl (.st 1)) x2)] [] [] (finC (.many [(.st 2),i64,.bool]) κ)
  =f35.b L N (fun a0 a1 a2=>κ (.tup [(.tv (.st 2) a0),(.tv i64 a1),(.tv .bool a2)])) x0 x1 x2:=by kernel_rfl
theorem f35.ok (L N:Nat) (hΦ:TellsOk Tryz.prog ((Φ66 L N))):EntOk Tryz.prog 35 (f35.ent L N):=entDa_ok (E:=(E35 L N)) (dep:=1000) (f:=Tryz.f35) (sound_of hΦ) okP (callI_sound (sound_of hΦ) okP 0 1000) rfl fun d _ hy=>(f35.b_eq L N (unR (.many [(.st 2),i64,.bool])) d.1 d.2.1 d.2.2.1).trans (Eq.trans (b:=f35.b L N (fun a0 a1 a2=>some (a0,a1,a2)) d.1 d.2.1 d.2.2.1) (by kernel_rfl) hy)
def Φ35 (L N:Nat):Tells:=(addT (Φ66 L N) 35 (f35.ent L N))
theorem Φ35_ok (L N:Nat):TellsOk Tryz.prog (Φ35 L N):=addT_ok (Φ66_ok L N) (f35.ok L N (Φ66_ok L N))
def f146.s0' {R:Type} (L N:Nat) (k0_e0:Option R) (k0_r:Bool→Option R) (rec0:LI→LI→Int→Int→Option R) (s0:LI) (s1:LI) (s2:Int) (s3:Int):Option R:=
 bif (decide (s3<s2)) then
  bif (decide (0≤s3)&&decide (s3<(s0.length:Int))) then
   bif (decide (0≤s3)&&decide (s3<(s1.length:Int))) then
    bif ((listAt s0 (0:Int) s3.toNat) !=(listAt s1 (0:Int) s3.toNat)) then
     k0_r false
    else rec0 s0 s1 s2 (wi (s3+(1:Int)))
   else none
  else none
 else k0_e0
def f146.s0 {R:Type} (L N:Nat) (k0_e0:Option R) (k0_r:Bool→Option R) (rec0:LI→LI→Int→Int→Option R) (s0:LI) (s1:LI) (s2:Int) (s3:Int):Option R:=
 f146.s0' L N k0_e0 k0_r rec0 s0 s1 s2 s3
def f146.l0 {R:Type} (L N:Nat) (k0_e0:Option R) (k0_r:Bool→Option R):Nat→LI→LI→Int→Int→Option R
 |0,_,_,_,_=>none
 |n+1,s0,s1,s2,s3=>f146.s0 L N k0_e0 k0_r (f146.l0 L N k0_e0 k0_r n) s0 s1 s2 s3
def f146.T0 (s0:LI) (s1:LI) (s2:Int) (s3:Int):T:=mkT 26 [(0,(.tv (.sl i64) s0)),(1,(.tv (.sl i64) s1)),(12,(.tv i64 s2)),(13,(.tv i64 s3))]
def f146.H0 (s0:LI) (s1:LI) (s2:Int) (s3:Int):H:=[]
def f146.T0_e0:T:=mkT 26 []
def f146.H0_e0:H:=[]
def f146.T0_r (z4:Bool):T:=mkT 26 [(4,(.tv .bool z4))]
def f146.H0_r (z4:Bool):H:=[]
def f146.p0_e0' {R:Type} (L N:Nat) (k:Bool→Option R):Option R:=
 k true
def f146.p0_e0 {R:Type} (L N:Nat) (k:Bool→Option R):Option R:=
 f146.p0_e0' L N k
def f146.p0_r' {R:Type} (L N:Nat) (k:Bool→Option R) (z4:Bool):Option R:=
 k z4
def f146.p0_r {R:Type} (L N:Nat) (k:Bool→Option R) (z4:Bool):Option R:=
 f146.p0_r' L N k z4
def f146.b' {R:Type} (L N:Nat) (k:Bool→Option R) (w0:LI→LI→Int→Int→Option R) (x0:LI) (x1:LI):Option R:=
 bif ((x0.length:Int) !=(x1.length:Int)) then
  k false
 else w0 x0 x1 (x0.length:Int) (0:Int)
def f146.b {R:Type} (L N:Nat) (k:Bool→Option R) (x0:LI) (x1:LI):Option R:=
 f146.b' L N k (fun s0 s1 s2 s3=>f146.l0 L N (f146.p0_e0 L N k) (fun z4=>f146.p0_r L N k z4) L s0 s1 s2 s3) x0 x1
def f146 (L N:Nat) (x0:LI) (x1:LI):Option (Bool):=f146.b L N some x0 x1
def f146.ent (L N:Nat):=entRo [(.sl i64),(.sl i64)] (.one .bool) fun d=>f146 L N d.1 d.2.1
noncomputable def E146 (L N:Nat):Env:={P:=Tryz.prog,ty:=tyOf,Φ:=(Φ35 L N),inl:=inlT,live:=lives,liveX:=livesX,L:=L,dp:=none,prom:=promT,heal:=healT,ren:=renT}
noncomputable def f146.c0:Code:=loopAt 0 (codeOf Tryz.f146)
def f146.X0_e0 {R:Type} (κ:KX R):=κ (.exit 0) f146.T0_e0 f146.H0_e0
def f146.X0_r {R:Type} (κ:KX R):=fun z4=>κ .ret (f146.T0_r z4) (f146.H0_r z4)
def f146.R0 {R:Type} (rec:KT R):=fun s0 s1 s2 s3=>rec (f146.T0 s0 s1 s2 s3) (f146.H0 s0 s1 s2 s3)
theorem f146.s0_eq {R:Type} (L N:Nat) (κ:KX R) (rec:KT R) (s0:LI) (s1:LI) (s2:Int) (s3:Int):
  evRd (E146 L N) (evCallI (E146 L N) 0 1000) 1000 146 26 0 f146.c0 κ rec (f146.T0 s0 s1 s2 s3) (f146.H0 s0 s1 s2 s3)
  =f146.s0 L N (f146.X0_e0 κ) (f146.X0_r κ) (f146.R0 rec) s0 s1 s2 s3:=by kernel_rfl
theorem f146.l0_eq {R:Type} (L N:Nat) (κ:KX R):∀(n:Nat) (s0:LI) (s1:LI) (s2:Int) (s3:Int),
  evLp (E146 L N) (evCallI (E146 L N) 0 1000) 1000 146 26 0 f146.c0 κ n (f146.T0 s0 s1 s2 s3) (f146.H0 s0 s1 s2 s3)
  =f146.l0 L N (f146.X0_e0 κ) (f146.X0_r κ) n s0 s1 s2 s3:=by
 intro n
 induction n with
 |zero=>intros;rfl
 |succ n ih=>
  intro s0 s1 s2 s3
  rw [evLp_succ,f146.s0_eq]
  delta f146.R0
  simp only [ih]
  rfl
theorem f146.p0_e0_eq {R:Type} (L N:Nat) (κ:AV→Option R):
  (contAt (E146 L N) (evCallI (E146 L N) 0 1000) 1000 146 26 0 (codeOf Tryz.f146) (finK (E146 L N) 1000 Tryz.f146 (finC (.one .bool) κ))) (.exit 0) f146.T0_e0 f146.H0_e0
  =f146.p0_e0 L N (fun a0=>κ (.tv .bool a0)):=by kernel_rfl
theorem f146.p0_r_eq {R:Type} (L N:Nat) (κ:AV→Option R) (z4:Bool):
  (contAt (E146 L N) (evCallI (E146 L N) 0 1000) 1000 146 26 0 (codeOf Tryz.f146) (finK (E146 L N) 1000 Tryz.f146 (finC (.one .bool) κ))) .ret (f146.T0_r z4) (f146.H0_r z4)
  =f146.p0_r L N (fun a0=>κ (.tv .bool a0)) z4:=by kernel_rfl
theorem f146.b_eq {R:Type} (L N:Nat) (κ:AV→Option R) (x0:LI) (x1:LI):
  evBody (E146 L N) (evCallI (E146 L N) 0 1000) 1000 146 Tryz.f146 [(.tv (.sl i64) x0),(.tv (.sl i64) x1)] [] [] (finC (.one .bool) κ)
  =f146.b L N (fun a0=>κ (.tv .bool a0)) x0 x1:=by
 refine Eq.trans (b:=f146.b' L N (fun a0=>κ (.tv .bool a0)) (fun s0 s1 s2 s3=>evLp (E146 L N) (evCallI (E146 L N) 0 1000) 1000 146 26 0 f146.c0 (contAt (E146 L N) (evCallI (E146 L N) 0 1000) 1000 146 26 0 (codeOf Tryz.f146) (finK (E146 L N) 1000 Tryz.f146 (finC (.one .bool) κ))) L (f146.T0 s0 s1 s2 s3) (f146.H0 s0 s1 s2 s3)) x0 x1) (by kernel_rfl) ?_
 unfold f146.b
 simp only [f146.l0_eq]
 delta f146.X0_e0 f146.X0_r
 simp only [f146.p0_e0_eq,f146.p0_r_eq]
theorem f146.ok (L N:Nat) (hΦ:TellsOk Tryz.prog ((Φ35 L N))):EntOk Tryz.prog 146 (f146.ent L N):=entRo_ok (E:=(E146 L N)) (dep:=1000) (f:=Tryz.f146) (sound_of hΦ) okP (callI_sound (sound_of hΦ) okP 0 1000) rfl rfl fun d _ hy=>(f146.b_eq L N (unR (.one .bool)) d.1 d.2.1).trans (Eq.trans (b:=f146.b L N some d.1 d.2.1) (by kernel_rfl) hy)
def Φ146 (L N:Nat):Tells:=(addT (Φ35 L N) 146 (f146.ent L N))
theorem Φ146_ok (L N:Nat):TellsOk Tryz.prog (Φ146 L N):=addT_ok (Φ35_ok L N) (f146.ok L N (Φ35_ok L N))
def f185.s0' {R:Type} (L N:Nat) (k0_e0:Option R) (k0_r:Bool→Option R) (rec0:LM→LM→Int→Int→Option R) (s0:LM) (s1:LM) (s2:Int) (s3:Int):Option R:=
 bif (decide (s3<s2)) then
  bif (decide (0≤s3)&&decide (s3<(s0.length:Int))) then
   bif (decide (0≤s3)&&decide (s3<(s1.length:Int))) then
    bif (!(Move.eqb (listAt s0 (Ty.dflt (.st 0)) s3.toNat) (listAt s1 (Ty.dflt (.st 0)) s3.toNat))) then
     k0_r false
    else rec0 s0 s1 s2 (wi (s3+(1:Int)))
   else none
  else none
 else k0_e0
def f185.s0 {R:Type} (L N:Nat) (k0_e0:Option R) (k0_r:Bool→Option R) (rec0:LM→LM→Int→Int→Option R) (s0:LM) (s1:LM) (s2:Int) (s3:Int):Option R:=
 f185.s0' L N k0_e0 k0_r rec0 s0 s1 s2 s3
def f185.l0 {R:Type} (L N:Nat) (k0_e0:Option R) (k0_r:Bool→Option R):Nat→LM→LM→Int→Int→Option R
 |0,_,_,_,_=>none
 |n+1,s0,s1,s2,s3=>f185.s0 L N k0_e0 k0_r (f185.l0 L N k0_e0 k0_r n) s0 s1 s2 s3
def f185.T0 (s0:LM) (s1:LM) (s2:Int) (s3:Int):T:=mkT 26 [(0,(.tv (.sl (.st 0)) s0)),(1,(.tv (.sl (.st 0)) s1)),(12,(.tv i64 s2)),(13,(.tv i64 s3))]
def f185.H0 (s0:LM) (s1:LM) (s2:Int) (s3:Int):H:=[]
def f185.T0_e0:T:=mkT 26 []
def f185.H0_e0:H:=[]
def f185.T0_r (z4:Bool):T:=mkT 26 [(4,(.tv .bool z4))]
def f185.H0_r (z4:Bool):H:=[]
def f185.p0_e0' {R:Type} (L N:Nat) (k:Bool→Option R):Option R:=
 k true
def f185.p0_e0 {R:Type} (L N:Nat) (k:Bool→Option R):Option R:=
 f185.p0_e0' L N k
def f185.p0_r' {R:Type} (L N:Nat) (k:Bool→Option R) (z4:Bool):Option R:=
 k z4
def f185.p0_r {R:Type} (L N:Nat) (k:Bool→Option R) (z4:Bool):Option R:=
 f185.p0_r' L N k z4
def f185.b' {R:Type} (L N:Nat) (k:Bool→Option R) (w0:LM→LM→Int→Int→Option R) (x0:LM) (x1:LM):Option R:=
 bif ((x0.length:Int) !=(x1.length:Int)) then
  k false
 else w0 x0 x1 (x0.length:Int) (0:Int)
def f185.b {R:Type} (L N:Nat) (k:Bool→Option R) (x0:LM) (x1:LM):Option R:=
 f185.b' L N k (fun s0 s1 s2 s3=>f185.l0 L N (f185.p0_e0 L N k) (fun z4=>f185.p0_r L N k z4) L s0 s1 s2 s3) x0 x1
def f185 (L N:Nat) (x0:LM) (x1:LM):Option (Bool):=f185.b L N some x0 x1
def f185.ent (L N:Nat):=entRo [(.sl (.st 0)),(.sl (.st 0))] (.one .bool) fun d=>f185 L N d.1 d.2.1
noncomputable def E185 (L N:Nat):Env:={P:=Tryz.prog,ty:=tyOf,Φ:=(Φ146 L N),inl:=inlT,live:=lives,liveX:=livesX,L:=L,dp:=none,prom:=promT,heal:=healT,ren:=renT}
noncomputable def f185.c0:Code:=loopAt 0 (codeOf Tryz.f185)
def f185.X0_e0 {R:Type} (κ:KX R):=κ (.exit 0) f185.T0_e0 f185.H0_e0
def f185.X0_r {R:Type} (κ:KX R):=fun z4=>κ .ret (f185.T0_r z4) (f185.H0_r z4)
def f185.R0 {R:Type} (rec:KT R):=fun s0 s1 s2 s3=>rec (f185.T0 s0 s1 s2 s3) (f185.H0 s0 s1 s2 s3)
theorem f185.s0_eq {R:Type} (L N:Nat) (κ:KX R) (rec:KT R) (s0:LM) (s1:LM) (s2:Int) (s3:Int):
  evRd (E185 L N) (evCallI (E185 L N) 0 1000) 1000 185 26 0 f185.c0 κ rec (f185.T0 s0 s1 s2 s3) (f185.H0 s0 s1 s2 s3)
  =f185.s0 L N (f185.X0_e0 κ) (f185.X0_r κ) (f185.R0 rec) s0 s1 s2 s3:=by kernel_rfl
theorem f185.l0_eq {R:Type} (L N:Nat) (κ:KX R):∀(n:Nat) (s0:LM) (s1:LM) (s2:Int) (s3:Int),
  evLp (E185 L N) (evCallI (E185 L N) 0 1000) 1000 185 26 0 f185.c0 κ n (f185.T0 s0 s1 s2 s3) (f185.H0 s0 s1 s2 s3)
  =f185.l0 L N (f185.X0_e0 κ) (f185.X0_r κ) n s0 s1 s2 s3:=by
 intro n
 induction n with
 |zero=>intros;rfl
 |succ n ih=>
  intro s0 s1 s2 s3
  rw [evLp_succ,f185.s0_eq]
  delta f185.R0
  simp only [ih]
  rfl
theorem f185.p0_e0_eq {R:Type} (L N:Nat) (κ:AV→Option R):
  (contAt (E185 L N) (evCallI (E185 L N) 0 1000) 1000 185 26 0 (codeOf Tryz.f185) (finK (E185 L N) 1000 Tryz.f185 (finC (.one .bool) κ))) (.exit 0) f185.T0_e0 f185.H0_e0
  =f185.p0_e0 L N (fun a0=>κ (.tv .bool a0)):=by kernel_rfl
theorem f185.p0_r_eq {R:Type} (L N:Nat) (κ:AV→Option R) (z4:Bool):
  (contAt (E185 L N) (evCallI (E185 L N) 0 1000) 1000 185 26 0 (codeOf Tryz.f185) (finK (E185 L N) 1000 Tryz.f185 (finC (.one .bool) κ))) .ret (f185.T0_r z4) (f185.H0_r z4)
  =f185.p0_r L N (fun a0=>κ (.tv .bool a0)) z4:=by kernel_rfl
theorem f185.b_eq {R:Type} (L N:Nat) (κ:AV→Option R) (x0:LM) (x1:LM):
  evBody (E185 L N) (evCallI (E185 L N) 0 1000) 1000 185 Tryz.f185 [(.tv (.sl (.st 0)) x0),(.tv (.sl (.st 0)) x1)] [] [] (finC (.one .bool) κ)
  =f185.b L N (fun a0=>κ (.tv .bool a0)) x0 x1:=by
 refine Eq.trans (b:=f185.b' L N (fun a0=>κ (.tv .bool a0)) (fun s0 s1 s2 s3=>evLp (E185 L N) (evCallI (E185 L N) 0 1000) 1000 185 26 0 f185.c0 (contAt (E185 L N) (evCallI (E185 L N) 0 1000) 1000 185 26 0 (codeOf Tryz.f185) (finK (E185 L N) 1000 Tryz.f185 (finC (.one .bool) κ))) L (f185.T0 s0 s1 s2 s3) (f185.H0 s0 s1 s2 s3)) x0 x1) (by kernel_rfl) ?_
 unfold f185.b
 simp only [f185.l0_eq]
 delta f185.X0_e0 f185.X0_r
 simp only [f185.p0_e0_eq,f185.p0_r_eq]
theorem f185.ok (L N:Nat) (hΦ:TellsOk Tryz.prog ((Φ146 L N))):EntOk Tryz.prog 185 (f185.ent L N):=entRo_ok (E:=(E185 L N)) (dep:=1000) (f:=Tryz.f185) (sound_of hΦ) okP (callI_sound (sound_of hΦ) okP 0 1000) rfl rfl fun d _ hy=>(f185.b_eq L N (unR (.one .bool)) d.1 d.2.1).trans (Eq.trans (b:=f185.b L N some d.1 d.2.1) (by kernel_rfl) hy)
def Φ185 (L N:Nat):Tells:=(addT (Φ146 L N) 185 (f185.ent L N))
theorem Φ185_ok (L N:Nat):TellsOk Tryz.prog (Φ185 L N):=addT_ok (Φ146_ok L N) (f185.ok L N (Φ146_ok L N))
def f112_1.s0' {R:Type} (L N:Nat) (k0_e0:LM→Option R) (rec0:LI→LM→Int→Int→LM→Option R) (s0:LI) (s1:LM) (s2:Int) (s3:Int) (s4:LM):Option R:=
 bif (decide (s3<s2)) then
  bif (decide (0≤s3)&&decide (s3<(s1.length:Int))) then
   bif (decide (0≤(listAt s1 (Ty.dflt (.st 0)) s3.toNat).to)&&decide ((listAt s1 (Ty.dflt (.st 0)) s3.toNat).to<(s0.length:Int))) then
    bif (decide (s4.length+([(Move.mk ((listAt s1 (Ty.dflt (.st 0)) s3.toNat).act) (listAt s0 (0:Int) ((listAt s1 (Ty.dflt (.st 0)) s3.toNat).to).toNat))]:LM).length≤lim)) then
     rec0 s0 s1 s2 (wi (s3+(1:Int))) (s4++([(Move.mk ((listAt s1 (Ty.dflt (.st 0)) s3.toNat).act) (listAt s0 (0:Int) ((listAt s1 (Ty.dflt (.st 0)) s3.toNat).to).toNat))]:LM))
    else none
   else none
  else none
 else k0_e0 s4
def f112_1.s0 {R:Type} (L N:Nat) (k0_e0:LM→Option R) (rec0:LI→LM→Int→Int→LM→Option R) (s0:LI) (s1:LM) (s2:Int) (s3:Int) (s4:LM):Option R:=
 f112_1.s0' L N k0_e0 rec0 s0 s1 s2 s3 s4
def f112_1.l0 {R:Type} (L N:Nat) (k0_e0:LM→Option R):Nat→LI→LM→Int→Int→LM→Option R
 |0,_,_,_,_,_=>none
 |n+1,s0,s1,s2,s3,s4=>f112_1.s0 L N k0_e0 (f112_1.l0 L N k0_e0 n) s0 s1 s2 s3 s4
def f112_1.T0 (s0:LI) (s1:LM) (s2:Int) (s3:Int) (s4:LM):T:=mkT 34 [(0,(.tv (.sl i64) s0)),(6,(.row 1009)),(14,(.tv (.sl (.st 0)) s1)),(15,(.tv i64 s2)),(16,(.tv i64 s3))]
def f112_1.H0 (s0:LI) (s1:LM) (s2:Int) (s3:Int) (s4:LM):H:=[(1009,(.row 63 (.st 0) s4))]
def f112_1.T0_e0 (z5:LM):T:=mkT 34 [(6,(.row 1009))]
def f112_1.H0_e0 (z5:LM):H:=[(1009,(.row 63 (.st 0) z5))]
def f112_1.p0_e0' {R:Type} (L N:Nat) (k:LM→Option R) (z5:LM):Option R:=
 ((fsortM z5)).bind fun y6=>
 k (tidyM z5)
def f112_1.p0_e0 {R:Type} (L N:Nat) (k:LM→Option R) (z5:LM):Option R:=
 f112_1.p0_e0' L N k z5
def f112_1.b' {R:Type} (L N:Nat) (k:LM→Option R) (w0:LI→LM→Int→Int→LM→Option R) (x0:LI) (x1:Int) (x2:LLM):Option R:=
 bif (decide (0≤x1)&&decide (x1<(x2.length:Int))) then
  w0 x0 (listAt x2 [] x1.toNat) ((listAt x2 [] x1.toNat).length:Int) (0:Int) ([]:LM)
 else none
def f112_1.b {R:Type} (L N:Nat) (k:LM→Option R) (x0:LI) (x1:Int) (x2:LLM):Option R:=
 f112_1.b' L N k (fun s0 s1 s2 s3 s4=>f112_1.l0 L N (fun z5=>f112_1.p0_e0 L N k z5) L s0 s1 s2 s3 s4) x0 x1 x2
def f112_1 (L N:Nat) (x0:LI) (x1:Int) (x2:LLM):Option (LM):=f112_1.b L N some x0 x1 x2
def f112_1.ent (L N:Nat):=entDf [(.dat (.sl i64)),(.dat i64),(.imp (.sl (.sl (.st 0))) 0)] (.one (.sl (.st 0))) fun d=>f112_1 L N d.1 d.2.1 d.2.2.1
noncomputable def E112_1 (L N:Nat):Env:={P:=Tryz.prog,ty:=tyOf,Φ:=(Φ185 L N),inl:=inlT,live:=lives,liveX:=livesX,L:=L,dp:=none,prom:=promT,heal:=healT,ren:=renT}
noncomputable def f112_1.c0:Code:=loopAt 0 (codeOf Tryz.f112)
def f112_1.X0_e0 {R:Type} (κ:KX R):=fun z5=>κ (.exit 0) (f112_1.T0_e0 z5) (f112_1.H0_e0 z5)
def f112_1.R0 {R:Type} (rec:KT R):=fun s0 s1 s2 s3 s4=>rec (f112_1.T0 s0 s1 s2 s3 s4) (f112_1.H0 s0 s1 s2 s3 s4)
theorem f112_1.s0_eq {R:Type} (L N:Nat) (κ:KX R) (rec:KT R) (s0:LI) (s1:LM) (s2:Int) (s3:Int) (s4:LM):
  evRd (E112_1 L N) (evCallI (E112_1 L N) 0 1000) 1000 112 34 0 f112_1.c0 κ rec (f112_1.T0 s0 s1 s2 s3 s4) (f112_1.H0 s0 s1 s2 s3 s4)
  =f112_1.s0 L N (f112_1.X0_e0 κ) (f112_1.R0 rec) s0 s1 s2 s3 s4:=by kernel_rfl
theorem f112_1.l0_eq {R:Type} (L N:Nat) (κ:KX R):∀(n:Nat) (s0:LI) (s1:LM) (s2:Int) (s3:Int) (s4:LM),
  evLp (E112_1 L N) (evCallI (E112_1 L N) 0 1000) 1000 112 34 0 f112_1.c0 κ n (f112_1.T0 s0 s1 s2 s3 s4) (f112_1.H0 s0 s1 s2 s3 s4)
  =f112_1.l0 L N (f112_1.X0_e0 κ) n s0 s1 s2 s3 s4:=by
 intro n
 induction n with
 |zero=>intros;rfl
 |succ n ih=>
  intro s0 s1 s2 s3 s4
  rw [evLp_succ,f112_1.s0_eq]
  delta f112_1.R0
  simp only [ih]
  rfl
theorem f112_1.p0_e0_eq {R:Type} (L N:Nat) (κ:AV→Option R) (z5:LM):
  (contAt (E112_1 L N) (evCallI (E112_1 L N) 0 1000) 1000 112 34 0 (codeOf Tryz.f112) (finK (E112_1 L N) 1000 Tryz.f112 (finC (.one (.sl (.st 0))) κ))) (.exit 0) (f112_1.T0_e0 z5) (f112_1.H0_e0 z5)
  =f112_1.p0_e0 L N (fun a0=>κ (.tv (.sl (.st 0)) a0)) z5:=by kernel_rfl
theorem f112_1.b_eq {R:Type} (L N:Nat) (κ:AV→Option R) (x0:LI) (x1:Int) (x2:LLM):
  evBody (E112_1 L N) (evCallI (E112_1 L N) 0 1000) 1000 112 Tryz.f112 [(.tv (.sl i64) x0),(.tv i64 x1),(.imp (.sl (.sl (.st 0))) x2 0)] [] [] (finC (.one (.sl (.st 0))) κ)
  =f112_1.b L N (fun a0=>κ (.tv (.sl (.st 0)) a0)) x0 x1 x2:=by
 refine Eq.trans (b:=f112_1.b' L N (fun a0=>κ (.tv (.sl (.st 0)) a0)) (fun s0 s1 s2 s3 s4=>evLp (E112_1 L N) (evCallI (E112_1 L N) 0 1000) 1000 112 34 0 f112_1.c0 (contAt (E112_1 L N) (evCallI (E112_1 L N) 0 1000) 1000 112 34 0 (codeOf Tryz.f112) (finK (E112_1 L N) 1000 Tryz.f112 (finC (.one (.sl (.st 0))) κ))) L (f112_1.T0 s0 s1 s2 s3 s4) (f112_1.H0 s0 s1 s2 s3 s4)) x0 x1 x2) (by kernel_rfl) ?_
 unfold f112_1.b
 simp only [f112_1.l0_eq]
 delta f112_1.X0_e0
 simp only [f112_1.p0_e0_eq]
theorem f112_1.ok (L N:Nat) (hΦ:TellsOk Tryz.prog ((Φ185 L N))):EntOkO Tryz.prog 112 (f112_1.ent L N):=entDf_ok (E:=(E112_1 L N)) (dep:=1000) (f:=Tryz.f112) (sound_of hΦ) okP (callI_sound (sound_of hΦ) okP 0 1000) rfl fun d _ hy=>(f112_1.b_eq L N (unR (.one (.sl (.st 0)))) d.1 d.2.1 d.2.2.1).trans (Eq.trans (b:=f112_1.b L N some d.1 d.2.1 d.2.2.1) (by kernel_rfl) hy)
def Φ112_1 (L N:Nat):Tells:=(addO (Φ185 L N) 112 (f112_1.ent L N))
theorem Φ112_1_ok (L N:Nat):TellsOk Tryz.prog (Φ112_1 L N):=addO_ok (Φ185_ok L N) (f112_1.ok L N (Φ185_ok L N))
def f145_1.b' {R:Type} (L N:Nat) (k:LM→Option R) (x0:Int) (x1:LLM) (x2:LI):Option R:=
 (f112_1 L N x2 x0 x1).bind fun y0=>
 k y0
def f145_1.b {R:Type} (L N:Nat) (k:LM→Option R) (x0:Int) (x1:LLM) (x2:LI):Option R:=
 f145_1.b' L N k x0 x1 x2
def f145_1 (L N:Nat) (x0:Int) (x1:LLM) (x2:LI):Option (LM):=f145_1.b L N some x0 x1 x2
def f145_1.ent (L N:Nat):=entDf [(.dat i64),(.pfn 112 [(.imp (.sl (.sl (.st 0))) 0)]),(.imp (.sl i64) 0)] (.one (.sl (.st 0))) fun d=>f145_1 L N d.1 d.2.1.1 d.2.2.1
noncomputable def E145_1 (L N:Nat):Env:={P:=Tryz.prog,ty:=tyOf,Φ:=(Φ112_1 L N),inl:=inlT,live:=lives,liveX:=livesX,L:=L,dp:=none,prom:=promT,heal:=healT,ren:=renT}
theorem f145_1.b_eq {R:Type} (L N:Nat) (κ:AV→Option R) (x0:Int) (x1:LLM) (x2:LI):
  evBody (E145_1 L N) (evCallI (E145_1 L N) 0 1000) 1000 145 Tryz.f145 [(.tv i64 x0),(.imf 112 [(.imp (.sl (.sl (.st 0))) x1 0)]),(.imp (.sl i64) x2 0)] [] [] (finC (.one (.sl (.st 0))) κ)
  =f145_1.b L N (fun a0=>κ (.tv (.sl (.st 0)) a0)) x0 x1 x2:=by kernel_rfl
theorem f145_1.ok (L N:Nat) (hΦ:TellsOk Tryz.prog ((Φ112_1 L N))):EntOkO Tryz.prog 145 (f145_1.ent L N):=entDf_ok (E:=(E145_1 L N)) (dep:=1000) (f:=Tryz.f145) (sound_of hΦ) okP (callI_sound (sound_of hΦ) okP 0 1000) rfl fun d _ hy=>(f145_1.b_eq L N (unR (.one (.sl (.st 0)))) d.1 d.2.1.1 d.2.2.1).trans (Eq.trans (b:=f145_1.b L N some d.1 d.2.1.1 d.2.2.1) (by kernel_rfl) hy)
def Φ145_1 (L N:Nat):Tells:=(addO (Φ112_1 L N) 145 (f145_1.ent L N))
theorem Φ145_1_ok (L N:Nat):TellsOk Tryz.prog (Φ145_1 L N):=addO_ok (Φ112_1_ok L N) (f145_1.ok L N (Φ112_1_ok L N))
def f144_1.j0' {R:Type} (L N:Nat) (k1_e2:LI→LLM→LI→Int→Int→LI→LLM→Option R) (rec1:LI→LLM→LI→Int→Int→Int→Int→LI→LLM→Option R) (v26:LI) (v27:LLM) (v28:LI) (v29:Int) (v30:Int) (v31:Int) (v32:Int) (v33:Bool) (v34:LI) (v35:LLM):Option R:=
 bif v33 then
  bif (decide (0≤v29)&&decide (v29<(v34.length:Int))) then
   k1_e2 v26 v27 v28 v31 v32 (v34.set v29.toNat v30) v35
  else none
 else rec1 v26 v27 v28 v29 (wi (v30+(1:Int))) v31 v32 v34 v35
def f144_1.s1' {R:Type} (L N:Nat) (k1_e2:LI→LLM→LI→Int→Int→LI→LLM→Option R) (rec1:LI→LLM→LI→Int→Int→Int→Int→LI→LLM→Option R) (s9:LI) (s10:LLM) (s11:LI) (s12:Int) (s13:Int) (s14:Int) (s15:Int) (s16:LI) (s17:LLM):Option R:=
 bif (decide (s13<s12)) then
  bif (decide (0≤s13)&&decide (s13<(s9.length:Int))) then
   bif (decide (0≤s12)&&decide (s12<(s9.length:Int))) then
    bif ((listAt s9 (0:Int) s13.toNat)==(listAt s9 (0:Int) s12.toNat)) then
     bif (decide (0≤s13)&&decide (s13<(s17.length:Int))) then
      bif (decide (0≤s12)&&decide (s12<(s17.length:Int))) then
       (f185 L N (listAt s17 [] s13.toNat) (listAt s17 [] s12.toNat)).bind fun y25=>
       f144_1.j0' L N k1_e2 rec1 s9 s10 s11 s12 s13 s14 s15 y25 s16 s17
      else none
     else none
    else f144_1.j0' L N k1_e2 rec1 s9 s10 s11 s12 s13 s14 s15 false s16 s17
   else none
  else none
 else k1_e2 s9 s10 s11 s14 s15 s16 s17
def f144_1.s1 {R:Type} (L N:Nat) (k1_e2:LI→LLM→LI→Int→Int→LI→LLM→Option R) (rec1:LI→LLM→LI→Int→Int→Int→Int→LI→LLM→Option R) (s9:LI) (s10:LLM) (s11:LI) (s12:Int) (s13:Int) (s14:Int) (s15:Int) (s16:LI) (s17:LLM):Option R:=
 f144_1.s1' L N k1_e2 rec1 s9 s10 s11 s12 s13 s14 s15 s16 s17
def f144_1.l1 {R:Type} (L N:Nat) (k1_e2:LI→LLM→LI→Int→Int→LI→LLM→Option R):Nat→LI→LLM→LI→Int→Int→Int→Int→LI→LLM→Option R
 |0,_,_,_,_,_,_,_,_,_=>none
 |n+1,s9,s10,s11,s12,s13,s14,s15,s16,s17=>f144_1.s1 L N k1_e2 (f144_1.l1 L N k1_e2 n) s9 s10 s11 s12 s13 s14 s15 s16 s17
def f144_1.T1 (s9:LI) (s10:LLM) (s11:LI) (s12:Int) (s13:Int) (s14:Int) (s15:Int) (s16:LI) (s17:LLM):T:=mkT 61 [(0,(.tv (.sl i64) s9)),(1,(.fn 145 [(.imf 112 [(.imp (.sl (.sl (.st 0))) s10 0)]),(.imp (.sl i64) s11 0)])),(5,(.row 1011)),(6,(.row 1014)),(7,(.tv i64 s12)),(8,(.tv i64 s13)),(16,(.tv i64 s14)),(17,(.tv i64 s15))]
def f144_1.H1 (s9:LI) (s10:LLM) (s11:LI) (s12:Int) (s13:Int) (s14:Int) (s15:Int) (s16:LI) (s17:LLM):H:=[(1011,(.row 3 i64 s16)),(1014,(.row 61 (.sl (.st 0)) s17))]
def f144_1.T1_e2 (z18:LI) (z19:LLM) (z20:LI) (z21:Int) (z22:Int) (z23:LI) (z24:LLM):T:=mkT 61 [(0,(.tv (.sl i64) z18)),(1,(.fn 145 [(.imf 112 [(.imp (.sl (.sl (.st 0))) z19 0)]),(.imp (.sl i64) z20 0)])),(5,(.row 1011)),(6,(.row 1014)),(16,(.tv i64 z21)),(17,(.tv i64 z22))]
def f144_1.H1_e2 (z18:LI) (z19:LLM) (z20:LI) (z21:Int) (z22:Int) (z23:LI) (z24:LLM):H:=[(1011,(.row 3 i64 z23)),(1014,(.row 61 (.sl (.st 0)) z24))]
def f144_1.p1_e2' {R:Type} (L N:Nat) (k0_e0:LI→Option R) (rec0:LI→LLM→LI→Int→Int→LI→LLM→Option R) (z18:LI) (z19:LLM) (z20:LI) (z21:Int) (z22:Int) (z23:LI) (z24:LLM):Option R:=
 rec0 z18 z19 z20 z21 (wi (z22+(1:Int))) z23 z24
def f144_1.p1_e2 {R:Type} (L N:Nat) (k0_e0:LI→Option R) (rec0:LI→LLM→LI→Int→Int→LI→LLM→Option R) (z18:LI) (z19:LLM) (z20:LI) (z21:Int) (z22:Int) (z23:LI) (z24:LLM):Option R:=
 f144_1.p1_e2' L N k0_e0 rec0 z18 z19 z20 z21 z22 z23 z24
def f144_1.s0' {R:Type} (L N:Nat) (k0_e0:LI→Option R) (rec0:LI→LLM→LI→Int→Int→LI→LLM→Option R) (w1:LI→LLM→LI→Int→Int→Int→Int→LI→LLM→Option R) (s0:LI) (s1:LLM) (s2:LI) (s3:Int) (s4:Int) (s5:LI) (s6:LLM):Option R:=
 bif (decide (s4<s3)) then
  (f145_1 L N s4 s1 s2).bind fun y8=>
  bif (decide (0≤s4)&&decide (s4<(s6.length:Int))) then
   bif (decide (0≤s4)&&decide (s4<(s5.length:Int))) then
    w1 s0 s1 s2 s4 (0:Int) s3 s4 (s5.set s4.toNat s4) (s6.set s4.toNat y8)
   else none
  else none
 else k0_e0 s5
def f144_1.s0 {R:Type} (L N:Nat) (k0_e0:LI→Option R) (rec0:LI→LLM→LI→Int→Int→LI→LLM→Option R) (s0:LI) (s1:LLM) (s2:LI) (s3:Int) (s4:Int) (s5:LI) (s6:LLM):Option R:=
 f144_1.s0' L N k0_e0 rec0 (fun s9 s10 s11 s12 s13 s14 s15 s16 s17=>f144_1.l1 L N (fun z18 z19 z20 z21 z22 z23 z24=>f144_1.p1_e2 L N k0_e0 rec0 z18 z19 z20 z21 z22 z23 z24) L s9 s10 s11 s12 s13 s14 s15 s16 s17) s0 s1 s2 s3 s4 s5 s6
def f144_1.l0 {R:Type} (L N:Nat) (k0_e0:LI→Option R):Nat→LI→LLM→LI→Int→Int→LI→LLM→Option R
 |0,_,_,_,_,_,_,_=>none
 |n+1,s0,s1,s2,s3,s4,s5,s6=>f144_1.s0 L N k0_e0 (f144_1.l0 L N k0_e0 n) s0 s1 s2 s3 s4 s5 s6
def f144_1.T0 (s0:LI) (s1:LLM) (s2:LI) (s3:Int) (s4:Int) (s5:LI) (s6:LLM):T:=mkT 61 [(0,(.tv (.sl i64) s0)),(1,(.fn 145 [(.imf 112 [(.imp (.sl (.sl (.st 0))) s1 0)]),(.imp (.sl i64) s2 0)])),(5,(.row 1011)),(6,(.row 1014)),(16,(.tv i64 s3)),(17,(.tv i64 s4))]
def f144_1.H0 (s0:LI) (s1:LLM) (s2:LI) (s3:Int) (s4:Int) (s5:LI) (s6:LLM):H:=[(1011,(.row 3 i64 s5)),(1014,(.row 61 (.sl (.st 0)) s6))]
def f144_1.T0_e0 (z7:LI):T:=mkT 61 [(5,(.row 1011))]
def f144_1.H0_e0 (z7:LI):H:=[(1011,(.row 3 i64 z7))]
def f144_1.p0_e0' {R:Type} (L N:Nat) (k:LI→Option R) (z7:LI):Option R:=
 k z7
def f144_1.p0_e0 {R:Type} (L N:Nat) (k:LI→Option R) (z7:LI):Option R:=
 f144_1.p0_e0' L N k z7
def f144_1.b' {R:Type} (L N:Nat) (k:LI→Option R) (w0:LI→LLM→LI→Int→Int→LI→LLM→Option R) (x0:LI) (x1:LLM) (x2:LI):Option R:=
 bif (decide (0≤(x0.length:Int))&&decide ((x0.length:Int)≤(lim:Int))) then
  bif (decide (0≤(x0.length:Int))&&decide ((x0.length:Int)≤(lim:Int))) then
   w0 x0 x1 x2 (x0.length:Int) (0:Int) (List.replicate (x0.length:Int).toNat (0:Int)) (List.replicate (x0.length:Int).toNat [])
  else none
 else none
def f144_1.b {R:Type} (L N:Nat) (k:LI→Option R) (x0:LI) (x1:LLM) (x2:LI):Option R:=
 f144_1.b' L N k (fun s0 s1 s2 s3 s4 s5 s6=>f144_1.l0 L N (fun z7=>f144_1.p0_e0 L N k z7) L s0 s1 s2 s3 s4 s5 s6) x0 x1 x2
def f144_1 (L N:Nat) (x0:LI) (x1:LLM) (x2:LI):Option (LI):=f144_1.b L N some x0 x1 x2
def f144_1.ent (L N:Nat) (args:List AV) (vw:View) (site:Nat):Option Ans:=match shD [(.dat (.sl i64)),(.fn 145 [(.pfn 112 [(.imp (.sl (.sl (.st 0))) 0)]),(.imp (.sl i64) 0)])] vw args with
 |some d=>some ⟨LI,f144_1 L N d.1 d.2.1.1.1 d.2.1.2.1,fun y=>(RN.av site .row (),[(site,some (mkO none 3 i64 y))],[])⟩
 |none=>none
noncomputable def E144_1 (L N:Nat):Env:={P:=Tryz.prog,ty:=tyOf,Φ:=(Φ145_1 L N),inl:=inlT,live:=lives,liveX:=livesX,L:=L,dp:=none,prom:=promT,heal:=healT,ren:=renT}
noncomputable def f144_1.c0:Code:=loopAt 0 (codeOf Tryz.f144)
noncomputable def f144_1.c1:Code:=loopAt 2 f144_1.c0
def f144_1.X1_e2 {R:Type} (κ:KX R):=fun z18 z19 z20 z21 z22 z23 z24=>κ (.exit 2) (f144_1.T1_e2 z18 z19 z20 z21 z22 z23 z24) (f144_1.H1_e2 z18 z19 z20 z21 z22 z23 z24)
def f144_1.R1 {R:Type} (rec:KT R):=fun s9 s10 s11 s12 s13 s14 s15 s16 s17=>rec (f144_1.T1 s9 s10 s11 s12 s13 s14 s15 s16 s17) (f144_1.H1 s9 s10 s11 s12 s13 s14 s15 s16 s17)
theorem f144_1.s1_eq {R:Type} (L N:Nat) (κ:KX R) (rec:KT R) (s9:LI) (s10:LLM) (s11:LI) (s12:Int) (s13:Int) (s14:Int) (s15:Int) (s16:LI) (s17:LLM):
  evRd (E144_1 L N) (evCallI (E144_1 L N) 0 1000) 1000 144 61 2 f144_1.c1 κ rec (f144_1.T1 s9 s10 s11 s12 s13 s14 s15 s16 s17) (f144_1.H1 s9 s10 s11 s12 s13 s14 s15 s16 s17)
  =f144_1.s1 L N (f144_1.X1_e2 κ) (f144_1.R1 rec) s9 s10 s11 s12 s13 s14 s15 s16 s17:=by kernel_rfl
theorem f144_1.l1_eq {R:Type} (L N:Nat) (κ:KX R):∀(n:Nat) (s9:LI) (s10:LLM) (s11:LI) (s12:Int) (s13:Int) (s14:Int) (s15:Int) (s16:LI) (s17:LLM),
  evLp (E144_1 L N) (evCallI (E144_1 L N) 0 1000) 1000 144 61 2 f144_1.c1 κ n (f144_1.T1 s9 s10 s11 s12 s13 s14 s15 s16 s17) (f144_1.H1 s9 s10 s11 s12 s13 s14 s15 s16 s17)
  =f144_1.l1 L N (f144_1.X1_e2 κ) n s9 s10 s11 s12 s13 s14 s15 s16 s17:=by
 intro n
 induction n with
 |zero=>intros;rfl
 |succ n ih=>
  intro s9 s10 s11 s12 s13 s14 s15 s16 s17
  rw [evLp_succ,f144_1.s1_eq]
  delta f144_1.R1
  simp only [ih]
  rfl
def f144_1.X0_e0 {R:Type} (κ:KX R):=fun z7=>κ (.exit 0) (f144_1.T0_e0 z7) (f144_1.H0_e0 z7)
def f144_1.R0 {R:Type} (rec:KT R):=fun s0 s1 s2 s3 s4 s5 s6=>rec (f144_1.T0 s0 s1 s2 s3 s4 s5 s6) (f144_1.H0 s0 s1 s2 s3 s4 s5 s6)
theorem f144_1.p1_e2_eq {R:Type} (L N:Nat) (κ:KX R) (rec:KT R) (z18:LI) (z19:LLM) (z20:LI) (z21:Int) (z22:Int) (z23:LI) (z24:LLM):
  (contAt (E144_1 L N) (evCallI (E144_1 L N) 0 1000) 1000 144 61 2 f144_1.c0 (rdK (E144_1 L N) 1000 144 61 0 κ rec)) (.exit 2) (f144_1.T1_e2 z18 z19 z20 z21 z22 z23 z24) (f144_1.H1_e2 z18 z19 z20 z21 z22 z23 z24)
  =f144_1.p1_e2 L N (f144_1.X0_e0 κ) (f144_1.R0 rec) z18 z19 z20 z21 z22 z23 z24:=by kernel_rfl
theorem f144_1.s0_eq {R:Type} (L N:Nat) (κ:KX R) (rec:KT R) (s0:LI) (s1:LLM) (s2:LI) (s3:Int) (s4:Int) (s5:LI) (s6:LLM):
  evRd (E144_1 L N) (evCallI (E144_1 L N) 0 1000) 1000 144 61 0 f144_1.c0 κ rec (f144_1.T0 s0 s1 s2 s3 s4 s5 s6) (f144_1.H0 s0 s1 s2 s3 s4 s5 s6)
  =f144_1.s0 L N (f144_1.X0_e0 κ) (f144_1.R0 rec) s0 s1 s2 s3 s4 s5 s6:=by
 refine Eq.trans (b:=f144_1.s0' L N (f144_1.X0_e0 κ) (f144_1.R0 rec) (fun s9 s10 s11 s12 s13 s14 s15 s16 s17=>evLp (E144_1 L N) (evCallI (E144_1 L N) 0 1000) 1000 144 61 2 f144_1.c1 (contAt (E144_1 L N) (evCallI (E144_1 L N) 0 1000) 1000 144 61 2 f144_1.c0 (rdK (E144_1 L N) 1000 144 61 0 κ rec)) L (f144_1.T1 s9 s10 s11 s12 s13 s14 s15 s16 s17) (f144_1.H1 s9 s10 s11 s12 s13 s14 s15 s16 s17)) s0 s1 s2 s3 s4 s5 s6) (by kernel_rfl) ?_
 unfold f144_1.s0
 simp only [f144_1.l1_eq]
 delta f144_1.X1_e2
 simp only [f144_1.p1_e2_eq]
theorem f144_1.l0_eq {R:Type} (L N:Nat) (κ:KX R):∀(n:Nat) (s0:LI) (s1:LLM) (s2:LI) (s3:Int) (s4:Int) (s5:LI) (s6:LLM),
  evLp (E144_1 L N) (evCallI (E144_1 L N) 0 1000) 1000 144 61 0 f144_1.c0 κ n (f144_1.T0 s0 s1 s2 s3 s4 s5 s6) (f144_1.H0 s0 s1 s2 s3 s4 s5 s6)
  =f144_1.l0 L N (f144_1.X0_e0 κ) n s0 s1 s2 s3 s4 s5 s6:=by
 intro n
 induction n with
 |zero=>intros;rfl
 |succ n ih=>
  intro s0 s1 s2 s3 s4 s5 s6
  rw [evLp_succ,f144_1.s0_eq]
  delta f144_1.R0
  simp only [ih]
  rfl
theorem f144_1.p0_e0_eq {R:Type} (L N:Nat) (κ:RN.Den .row→List Int→Option R) (z7:LI):
  (contAt (E144_1 L N) (evCallI (E144_1 L N) 0 1000) 1000 144 61 0 (codeOf Tryz.f144) (finK (E144_1 L N) 1000 Tryz.f144 (finN .row none 3 i64 κ))) (.exit 0) (f144_1.T0_e0 z7) (f144_1.H0_e0 z7)
  =f144_1.p0_e0 L N (fun a0=>κ () a0) z7:=by kernel_rfl
theorem f144_1.b_eq {R:Type} (L N:Nat) (κ:RN.Den .row→List Int→Option R) (x0:LI) (x1:LLM) (x2:LI):
  evBody (E144_1 L N) (evCallI (E144_1 L N) 0 1000) 1000 144 Tryz.f144 [(.tv (.sl i64) x0),(.fn 145 [(.imf 112 [(.imp (.sl (.sl (.st 0))) x1 0)]),(.imp (.sl i64) x2 0)])] [] [] (finN .row none 3 i64 κ)
  =f144_1.b L N (fun a0=>κ () a0) x0 x1 x2:=by
 refine Eq.trans (b:=f144_1.b' L N (fun a0=>κ () a0) (fun s0 s1 s2 s3 s4 s5 s6=>evLp (E144_1 L N) (evCallI (E144_1 L N) 0 1000) 1000 144 61 0 f144_1.c0 (contAt (E144_1 L N) (evCallI (E144_1 L N) 0 1000) 1000 144 61 0 (codeOf Tryz.f144) (finK (E144_1 L N) 1000 Tryz.f144 (finN .row none 3 i64 κ))) L (f144_1.T0 s0 s1 s2 s3 s4 s5 s6) (f144_1.H0 s0 s1 s2 s3 s4 s5 s6)) x0 x1 x2) (by kernel_rfl) ?_
 unfold f144_1.b
 simp only [f144_1.l0_eq]
 delta f144_1.X0_e0
 simp only [f144_1.p0_e0_eq]
theorem f144_1.ok (L N:Nat) (hΦ:TellsOk Tryz.prog ((Φ145_1 L N))):EntOkO Tryz.prog 144 (f144_1.ent L N):=by
 intro args vw site h a ha
 unfold f144_1.ent at ha
 split at ha
 ·rename_i d hd
  obtain rfl:=Option.some.inj ha
  intro y hy hs
  refine call_ronF (y:=y) (dep:=1000) (E:=(E144_1 L N)) (rn:=.row) (q:=none) (el:=3) (ty:=i64) (d1:=()) (xs:=y) (κ:=(fun d xs=>some xs)) (sound_of hΦ) okP (callI_sound (sound_of hΦ) okP 0 1000) (f:=Tryz.f144) rfl hs hd ?_ (fun _ _ h=>by obtain rfl:=Option.some.inj h;exact ⟨rfl,rfl⟩) rfl site
  exact (f144_1.b_eq L N (fun d xs=>some xs) d.1 d.2.1.1.1 d.2.1.2.1).trans (Eq.trans (b:=f144_1.b L N some d.1 d.2.1.1.1 d.2.1.2.1) (by kernel_rfl) hy)
 ·cases ha
def Φ144_1 (L N:Nat):Tells:=(addO (Φ145_1 L N) 144 (f144_1.ent L N))
theorem Φ144_1_ok (L N:Nat):TellsOk Tryz.prog (Φ144_1 L N):=addO_ok (Φ145_1_ok L N) (f144_1.ok L N (Φ145_1_ok L N))
def f111_1.s0' {R:Type} (L N:Nat) (k0_r:LLI→Option R) (rec0:LLM→LLI→Option R) (s0:LLM) (s1:LLI):Option R:=
 bif (decide (0≤(wi ((s1.length:Int)-(1:Int))))&&decide ((wi ((s1.length:Int)-(1:Int)))<(s1.length:Int))) then
  (f144_1 L N (listAt s1 [] (wi ((s1.length:Int)-(1:Int))).toNat) s0 (listAt s1 [] (wi ((s1.length:Int)-(1:Int))).toNat)).bind fun y2=>
  (f146 L N y2 (listAt s1 [] (wi ((s1.length:Int)-(1:Int))).toNat)).bind fun y3=>
  bif y3 then
   k0_r s1
  else bif (decide (s1.length+([y2]:LLI).length≤lim)) then
   rec0 s0 (s1++([y2]:LLI))
  else none
 else none
def f111_1.s0 {R:Type} (L N:Nat) (k0_r:LLI→Option R) (rec0:LLM→LLI→Option R) (s0:LLM) (s1:LLI):Option R:=
 f111_1.s0' L N k0_r rec0 s0 s1
def f111_1.l0 {R:Type} (L N:Nat) (k0_r:LLI→Option R):Nat→LLM→LLI→Option R
 |0,_,_=>none
 |n+1,s0,s1=>f111_1.s0 L N k0_r (f111_1.l0 L N k0_r n) s0 s1
def f111_1.T0 (s0:LLM) (s1:LLI):T:=mkT 28 [(3,(.ptr 1003 0)),(5,(.row 1010))]
def f111_1.H0 (s0:LLM) (s1:LLI):H:=[(1003,(.box [(.fn 112 [(.imp (.sl (.sl (.st 0))) s0 0)])])),(1010,(.row 32 (.sl i64) s1))]
def f111_1.T0_r (z4:LLI):T:=mkT 28 [(4,(.row 1010))]
def f111_1.H0_r (z4:LLI):H:=[(1010,(.row 32 (.sl i64) z4))]
def f111_1.p0_r' {R:Type} (L N:Nat) (k:LLI→Option R) (z4:LLI):Option R:=
 k z4
def f111_1.p0_r {R:Type} (L N:Nat) (k:LLI→Option R) (z4:LLI):Option R:=
 f111_1.p0_r' L N k z4
def f111_1.b' {R:Type} (L N:Nat) (k:LLI→Option R) (w0:LLM→LLI→Option R) (x0:Int) (x1:LLM):Option R:=
 bif (decide (0≤x0)&&decide (x0≤(lim:Int))) then
  w0 x1 ([(List.replicate x0.toNat (0:Int))]:LLI)
 else none
def f111_1.b {R:Type} (L N:Nat) (k:LLI→Option R) (x0:Int) (x1:LLM):Option R:=
 f111_1.b' L N k (fun s0 s1=>f111_1.l0 L N (fun z4=>f111_1.p0_r L N k z4) L s0 s1) x0 x1
def f111_1 (L N:Nat) (x0:Int) (x1:LLM):Option (LLI):=f111_1.b L N some x0 x1
def f111_1.ent (L N:Nat):=entDf [(.dat i64),(.fn 112 [(.imp (.sl (.sl (.st 0))) 0)])] (.one (.sl (.sl i64))) fun d=>f111_1 L N d.1 d.2.1.1
noncomputable def E111_1 (L N:Nat):Env:={P:=Tryz.prog,ty:=tyOf,Φ:=(Φ144_1 L N),inl:=inlT,live:=lives,liveX:=livesX,L:=L,dp:=none,prom:=promT,heal:=healT,ren:=renT}
noncomputable def f111_1.c0:Code:=loopAt 0 (codeOf Tryz.f111)
def f111_1.X0_r {R:Type} (κ:KX R):=fun z4=>κ .ret (f111_1.T0_r z4) (f111_1.H0_r z4)
def f111_1.R0 {R:Type} (rec:KT R):=fun s0 s1=>rec (f111_1.T0 s0 s1) (f111_1.H0 s0 s1)
theorem f111_1.s0_eq {R:Type} (L N:Nat) (κ:KX R) (rec:KT R) (s0:LLM) (s1:LLI):
  evRd (E111_1 L N) (evCallI (E111_1 L N) 0 1000) 1000 111 28 0 f111_1.c0 κ rec (f111_1.T0 s0 s1) (f111_1.H0 s0 s1)
  =f111_1.s0 L N (f111_1.X0_r κ) (f111_1.R0 rec) s0 s1:=by kernel_rfl
theorem f111_1.l0_eq {R:Type} (L N:Nat) (κ:KX R):∀(n:Nat) (s0:LLM) (s1:LLI),
  evLp (E111_1 L N) (evCallI (E111_1 L N) 0 1000) 1000 111 28 0 f111_1.c0 κ n (f111_1.T0 s0 s1) (f111_1.H0 s0 s1)
  =f111_1.l0 L N (f111_1.X0_r κ) n s0 s1:=by
 intro n
 induction n with
 |zero=>intros;rfl
 |succ n ih=>
  intro s0 s1
  rw [evLp_succ,f111_1.s0_eq]
  delta f111_1.R0
  simp only [ih]
  rfl
theorem f111_1.p0_r_eq {R:Type} (L N:Nat) (κ:AV→Option R) (z4:LLI):
  (contAt (E111_1 L N) (evCallI (E111_1 L N) 0 1000) 1000 111 28 0 (codeOf Tryz.f111) (finK (E111_1 L N) 1000 Tryz.f111 (finC (.one (.sl (.sl i64))) κ))) .ret (f111_1.T0_r z4) (f111_1.H0_r z4)
  =f111_1.p0_r L N (fun a0=>κ (.tv (.sl (.sl i64)) a0)) z4:=by kernel_rfl
theorem f111_1.b_eq {R:Type} (L N:Nat) (κ:AV→Option R) (x0:Int) (x1:LLM):
  evBody (E111_1 L N) (evCallI (E111_1 L N) 0 1000) 1000 111 Tryz.f111 [(.tv i64 x0),(.fn 112 [(.imp (.sl (.sl (.st 0))) x1 0)])] [] [] (finC (.one (.sl (.sl i64))) κ)
  =f111_1.b L N (fun a0=>κ (.tv (.sl (.sl i64)) a0)) x0 x1:=by
 refine Eq.trans (b:=f111_1.b' L N (fun a0=>κ (.tv (.sl (.sl i64)) a0)) (fun s0 s1=>evLp (E111_1 L N) (evCallI (E111_1 L N) 0 1000) 1000 111 28 0 f111_1.c0 (contAt (E111_1 L N) (evCallI (E111_1 L N) 0 1000) 1000 111 28 0 (codeOf Tryz.f111) (finK (E111_1 L N) 1000 Tryz.f111 (finC (.one (.sl (.sl i64))) κ))) L (f111_1.T0 s0 s1) (f111_1.H0 s0 s1)) x0 x1) (by kernel_rfl) ?_
 unfold f111_1.b
 simp only [f111_1.l0_eq]
 delta f111_1.X0_r
 simp only [f111_1.p0_r_eq]
theorem f111_1.ok (L N:Nat) (hΦ:TellsOk Tryz.prog ((Φ144_1 L N))):EntOkO Tryz.prog 111 (f111_1.ent L N):=entDf_ok (E:=(E111_1 L N)) (dep:=1000) (f:=Tryz.f111) (sound_of hΦ) okP (callI_sound (sound_of hΦ) okP 0 1000) rfl fun d _ hy=>(f111_1.b_eq L N (unR (.one (.sl (.sl i64)))) d.1 d.2.1.1).trans (Eq.trans (b:=f111_1.b L N some d.1 d.2.1.1) (by kernel_rfl) hy)
def Φ111_1 (L N:Nat):Tells:=(addO (Φ144_1 L N) 111 (f111_1.ent L N))
theorem Φ111_1_ok (L N:Nat):TellsOk Tryz.prog (Φ111_1 L N):=addO_ok (Φ144_1_ok L N) (f111_1.ok L N (Φ144_1_ok L N))
def f69.b' {R:Type} (L N:Nat) (k:LLI→Option R) (x0:Graph):Option R:=
 (f111_1 L N (x0.moves.length:Int) x0.moves).bind fun y0=>
 k y0
def f69.b {R:Type} (L N:Nat) (k:LLI→Option R) (x0:Graph):Option R:=
 f69.b' L N k x0
def f69 (L N:Nat) (x0:Graph):Option (LLI):=f69.b L N some x0
def f69.ent (L N:Nat):=entDa [(.st 2)] (.one (.sl (.sl i64))) fun d=>f69 L N d.1
noncomputable def E69 (L N:Nat):Env:={P:=Tryz.prog,ty:=tyOf,Φ:=(Φ111_1 L N),inl:=inlT,live:=lives,liveX:=livesX,L:=L,dp:=none,prom:=promT,heal:=healT,ren:=renT}
theorem f69.b_eq {R:Type} (L N:Nat) (κ:AV→Option R) (x0:Graph):
  evBody (E69 L N) (evCallI (E69 L N) 0 1000) 1000 69 Tryz.f69 [(.tv (.st 2) x0)] [] [] (finC (.one (.sl (.sl i64))) κ)
  =f69.b L N (fun a0=>κ (.tv (.sl (.sl i64)) a0)) x0:=by kernel_rfl
theorem f69.ok (L N:Nat) (hΦ:TellsOk Tryz.prog ((Φ111_1 L N))):EntOk Tryz.prog 69 (f69.ent L N):=entDa_ok (E:=(E69 L N)) (dep:=1000) (f:=Tryz.f69) (sound_of hΦ) okP (callI_sound (sound_of hΦ) okP 0 1000) rfl fun d _ hy=>(f69.b_eq L N (unR (.one (.sl (.sl i64)))) d.1).trans (Eq.trans (b:=f69.b L N some d.1) (by kernel_rfl) hy)
def Φ69 (L N:Nat):Tells:=(addT (Φ111_1 L N) 69 (f69.ent L N))
theorem Φ69_ok (L N:Nat):TellsOk Tryz.prog (Φ69 L N):=addT_ok (Φ111_1_ok L N) (f69.ok L N (Φ111_1_ok L N))
def f37.b' {R:Type} (L N:Nat) (k:LI→Option R) (x0:Graph):Option R:=
 (f69 L N (Graph.mk x0.moves)).bind fun y0=>
 bif (decide (0≤(wi ((y0.length:Int)-(1:Int))))&&decide ((wi ((y0.length:Int)-(1:Int)))<(y0.length:Int))) then
  ((fclone (listAt y0 [] (wi ((y0.length:Int)-(1:Int))).toNat))).bind fun y1=>
  k (listAt y0 [] (wi ((y0.length:Int)-(1:Int))).toNat)
 else none
def f37.b {R:Type} (L N:Nat) (k:LI→Option R) (x0:Graph):Option R:=
 f37.b' L N k x0
def f37 (L N:Nat) (x0:Graph):Option (LI):=f37.b L N some x0
def f37.ent (L N:Nat) (args:List AV) (vw:View) (site:Nat):Ans:=match roD [(.st 2)] vw args with
 |some d=>⟨LI,f37 L N d.1,fun y=>(RN.av site .row (),[(site,some (mkO none 3 i64 y))],[])⟩
 |none=>Ans.no
noncomputable def E37 (L N:Nat):Env:={P:=Tryz.prog,ty:=tyOf,Φ:=(Φ69 L N),inl:=inlT,live:=lives,liveX:=livesX,L:=L,dp:=none,prom:=promT,heal:=healT,ren:=renT}
theorem f37.b_eq {R:Type} (L N:Nat) (κ:RN.Den .row→List Int→Option R) (x0:Graph):
  evBody (E37 L N) (evCallI (E37 L N) 0 1000) 1000 37 Tryz.f37 [(.tv (.st 2) x0)] [] [] (finN .row none 3 i64 κ)
  =f37.b L N (fun a0=>κ () a0) x0:=by kernel_rfl
theorem f37.ok (L N:Nat) (hΦ:TellsOk Tryz.prog ((Φ69 L N))):EntOk Tryz.prog 37 (f37.ent L N):=by
 intro args vw site h
 unfold f37.ent
 split
 ·rename_i d ha
  intro y hy hs
  refine call_ron (y:=y) (dep:=1000) (E:=(E37 L N)) (ts:=[(.st 2)]) (rn:=.row) (q:=none) (el:=3) (ty:=i64) (d1:=()) (xs:=y) (κ:=(fun d xs=>some xs)) (sound_of hΦ) okP (callI_sound (sound_of hΦ) okP 0 1000) (f:=Tryz.f37) rfl hs ha ?_ (fun _ _ h=>by obtain rfl:=Option.some.inj h;exact ⟨rfl,rfl⟩) rfl site
  exact (f37.b_eq L N (fun d xs=>some xs) d.1).trans (Eq.trans (b:=f37.b L N some d.1) (by kernel_rfl) hy)
 ·intro y hy
  cases hy
def Φ37 (L N:Nat):Tells:=(addT (Φ69 L N) 37 (f37.ent L N))
theorem Φ37_ok (L N:Nat):TellsOk Tryz.prog (Φ37 L N):=addT_ok (Φ69_ok L N) (f37.ok L N (Φ69_ok L N))
def f15.b' {R:Type} (L N:Nat) (k:Bool→Bool→Option R) (x0:Tree) (x1:Tree) (x2:LT):Option R:=
 (f35 L N (Tree.mk x0.op x0.n x0.parts) (Tree.mk x1.op x1.n x1.parts) x2).bind fun y0=>
 bif (!y0.2.2) then
  k false false
 else (f37 L N (Graph.mk y0.1.moves)).bind fun y1=>
 bif (decide (0≤(0:Int))&&decide ((0:Int)<(y1.length:Int))) then
  bif (decide (0≤y0.2.1)&&decide (y0.2.1<(y1.length:Int))) then
   k ((listAt y1 (0:Int) (0:Int).toNat)==(listAt y1 (0:Int) y0.2.1.toNat)) true
  else none
 else none
def f15.b {R:Type} (L N:Nat) (k:Bool→Bool→Option R) (x0:Tree) (x1:Tree) (x2:LT):Option R:=
 f15.b' L N k x0 x1 x2
def f15 (L N:Nat) (x0:Tree) (x1:Tree) (x2:LT):Option (Bool×Bool):=f15.b L N (fun a0 a1=>some (a0,a1)) x0 x1 x2
def f15.ent (L N:Nat):=entRo [(.st 1),(.st 1),(.sl (.st 1))] (.many [.bool,.bool]) fun d=>f15 L N d.1 d.2.1 d.2.2.1
noncomputable def E15 (L N:Nat):Env:={P:=Tryz.prog,ty:=tyOf,Φ:=(Φ37 L N),inl:=inlT,live:=lives,liveX:=livesX,L:=L,dp:=none,prom:=promT,heal:=healT,ren:=renT}
theorem f15.b_eq {R:Type} (L N:Nat) (κ:AV→Option R) (x0:Tree) (x1:Tree) (x2:LT):
  evBody (E15 L N) (evCallI (E15 L N) 0 1000) 1000 15 Tryz.f15 [(.tv (.st 1) x0),(.tv (.st 1) x1),(.tv (.sl (.st 1)) x2)] [] [] (finC (.many [.bool,.bool]) κ)
  =f15.b L N (fun a0 a1=>κ (.tup [(.tv .bool a0),(.tv .bool a1)])) x0 x1 x2:=by kernel_rfl
theorem f15.ok (L N:Nat) (hΦ:TellsOk Tryz.prog ((Φ37 L N))):EntOk Tryz.prog 15 (f15.ent L N):=entRo_ok (E:=(E15 L N)) (dep:=1000) (f:=Tryz.f15) (sound_of hΦ) okP (callI_sound (sound_of hΦ) okP 0 1000) rfl rfl fun d _ hy=>(f15.b_eq L N (unR (.many [.bool,.bool])) d.1 d.2.1 d.2.2.1).trans (Eq.trans (b:=f15.b L N (fun a0 a1=>some (a0,a1)) d.1 d.2.1 d.2.2.1) (by kernel_rfl) hy)
def Φ15 (L N:Nat):Tells:=(addT (Φ37 L N) 15 (f15.ent L N))
theorem Φ15_ok (L N:Nat):TellsOk Tryz.prog (Φ15 L N):=addT_ok (Φ37_ok L N) (f15.ok L N (Φ37_ok L N))
def f54.b' {R:Type} (L N:Nat) (k:Bool→Option R) (x0:Int) (x1:Int) (x2:Int):Option R:=
 bif (decide (x0≥x1)) then
  k (decide (x0≤x2))
 else k false
def f54.b {R:Type} (L N:Nat) (k:Bool→Option R) (x0:Int) (x1:Int) (x2:Int):Option R:=
 f54.b' L N k x0 x1 x2
def f54 (L N:Nat) (x0:Int) (x1:Int) (x2:Int):Option (Bool):=f54.b L N some x0 x1 x2
def f54.ent (L N:Nat):=entRo [i64,i64,i64] (.one .bool) fun d=>f54 L N d.1 d.2.1 d.2.2.1
noncomputable def E54 (L N:Nat):Env:={P:=Tryz.prog,ty:=tyOf,Φ:=(Φ15 L N),inl:=inlT,live:=lives,liveX:=livesX,L:=L,dp:=none,prom:=promT,heal:=healT,ren:=renT}
theorem f54.b_eq {R:Type} (L N:Nat) (κ:AV→Option R) (x0:Int) (x1:Int) (x2:Int):
  evBody (E54 L N) (evCallI (E54 L N) 0 1000) 1000 54 Tryz.f54 [(.tv i64 x0),(.tv i64 x1),(.tv i64 x2)] [] [] (finC (.one .bool) κ)
  =f54.b L N (fun a0=>κ (.tv .bool a0)) x0 x1 x2:=by kernel_rfl
end Go.Proofs.YthidlhjjnaldhaaGreatDoor.Ev
