/- The seat's functions as plain functions, continued: made by program (wip/gen/gen.py). -/
import Derived.Test.YthidlhjjnaldhaaGreatDoorTX3b
namespace Go.Proofs.YthidlhjjnaldhaaGreatDoor.Ev
open Go
variable {R:Type}
set_option linter.unusedVariables false
set_option maxRecDepth 20000
theorem f116.l1_eq (L N:Nat) (κ:KX R):∀(n:Nat) (a:LT) (b c:Int) (d:LT) (e:LY) (f:LS) (g:LM) (h:LLM),
  evLp (E116 L N) (evCallI (E116 L N) 0 1000) 1000 116 106 2 f116.c1 κ n (f116.T1 a b c d e f g h) (f116.H1 a b c d e f g h)
  =f116.l1 L N (f116.X1_e2 κ) (f116.X1_r κ) n a b c d e f g h:=by
 intro n
 induction n with
 |zero=>intros;rfl
 |succ n ih=>
  intro a b c d e f g h
  rw [evLp_succ,f116.s1_eq]
  delta f116.R1
  simp only [ih]
  rfl
def f116.X0_e0 (κ:KX R):=fun a=>κ (.exit 0) (f116.T0_e0 a) (f116.H0_e0 a)
def f116.X0_r (κ:KX R):=fun a b=>κ .ret (f116.T0_r a b) (f116.H0_r a b)
def f116.R0 (rec:KT R):=fun a b c d e=>rec (f116.T0 a b c d e) (f116.H0 a b c d e)
theorem f116.p1_e2_eq (L N:Nat) (κ:KX R) (rec:KT R) (a:LT) (b:Int) (c:LT) (d:LY) (e:LM) (f:LLM):
  (contAt (E116 L N) (evCallI (E116 L N) 0 1000) 1000 116 106 2 f116.c0 (rdK (E116 L N) 1000 116 106 0 κ rec)) (.exit 2) (f116.T1_e2 a b c d e f) (f116.H1_e2 a b c d e f)
  =f116.p1_e2 L N (f116.X0_e0 κ) (f116.X0_r κ) (f116.R0 rec) a b c d e f:=by kernel_rfl
theorem f116.p1_r_eq (L N:Nat) (κ:KX R) (rec:KT R) (a:LT) (b:Bool) (c:Int) (d:LT) (e:LY) (f:LM) (g:LLM):
  (contAt (E116 L N) (evCallI (E116 L N) 0 1000) 1000 116 106 2 f116.c0 (rdK (E116 L N) 1000 116 106 0 κ rec)) .ret (f116.T1_r a b c d e f g) (f116.H1_r a b c d e f g)
  =f116.p1_r L N (f116.X0_e0 κ) (f116.X0_r κ) (f116.R0 rec) a b c d e f g:=by kernel_rfl
theorem f116.s0_eq (L N:Nat) (κ:KX R) (rec:KT R) (a:LT) (c:Int) (d:LT) (e:LY) (f:LLM):
  evRd (E116 L N) (evCallI (E116 L N) 0 1000) 1000 116 106 0 f116.c0 κ rec (f116.T0 a c d e f) (f116.H0 a c d e f)
  =f116.s0 L N (f116.X0_e0 κ) (f116.X0_r κ) (f116.R0 rec) a c d e f:=by
 refine Eq.trans (b:=f116.s0' L N (f116.X0_e0 κ) (f116.X0_r κ) (f116.R0 rec) (fun g h i j k l m n=>evLp (E116 L N) (evCallI (E116 L N) 0 1000) 1000 116 106 2 f116.c1 (contAt (E116 L N) (evCallI (E116 L N) 0 1000) 1000 116 106 2 f116.c0 (rdK (E116 L N) 1000 116 106 0 κ rec)) L (f116.T1 g h i j k l m n) (f116.H1 g h i j k l m n)) a c d e f) (by kernel_rfl) ?_
 unfold f116.s0
 simp only [f116.l1_eq]
 delta f116.X1_e2 f116.X1_r
 simp only [f116.p1_e2_eq,f116.p1_r_eq]
theorem f116.l0_eq (L N:Nat) (κ:KX R):∀(n:Nat) (a:LT) (b:Int) (c:LT) (d:LY) (e:LLM),
  evLp (E116 L N) (evCallI (E116 L N) 0 1000) 1000 116 106 0 f116.c0 κ n (f116.T0 a b c d e) (f116.H0 a b c d e)
  =f116.l0 L N (f116.X0_e0 κ) (f116.X0_r κ) n a b c d e:=by
 intro n
 induction n with
 |zero=>intros;rfl
 |succ n ih=>
  intro a b c d e
  rw [evLp_succ,f116.s0_eq]
  delta f116.R0
  simp only [ih]
  rfl
theorem f116.p0_e0_eq (L N:Nat) (κ:AV->Option R) (a:LLM):
  (contAt (E116 L N) (evCallI (E116 L N) 0 1000) 1000 116 106 0 (codeOf Tryz.f116) (finK (E116 L N) 1000 Tryz.f116 (finC (.many [(.st 2),.bool]) κ))) (.exit 0) (f116.T0_e0 a) (f116.H0_e0 a)
  =f116.p0_e0 L N (fun a0 a1=>κ (.tup [(.tv (.st 2) a0),(.tv .bool a1)])) a:=by kernel_rfl
theorem f116.p0_r_eq (L N:Nat) (κ:AV->Option R) (a:Bool) (b:LLM):
  (contAt (E116 L N) (evCallI (E116 L N) 0 1000) 1000 116 106 0 (codeOf Tryz.f116) (finK (E116 L N) 1000 Tryz.f116 (finC (.many [(.st 2),.bool]) κ))) .ret (f116.T0_r a b) (f116.H0_r a b)
  =f116.p0_r L N (fun a0 a1=>κ (.tup [(.tv (.st 2) a0),(.tv .bool a1)])) a b:=by kernel_rfl
theorem f116.b_eq (L N:Nat) (κ:AV->Option R) (a:Tree) (c:LT):
  evBody (E116 L N) (evCallI (E116 L N) 0 1000) 1000 116 Tryz.f116 [(.tv (.st 1) a),(.tv (.sl (.st 1)) c)] [] [] (finC (.many [(.st 2),.bool]) κ)
  =f116.b L N (fun a0 a1=>κ (.tup [(.tv (.st 2) a0),(.tv .bool a1)])) a c:=by
 refine Eq.trans (b:=f116.b' L N (fun a0 a1=>κ (.tup [(.tv (.st 2) a0),(.tv .bool a1)])) (fun d e f g h=>evLp (E116 L N) (evCallI (E116 L N) 0 1000) 1000 116 106 0 f116.c0 (contAt (E116 L N) (evCallI (E116 L N) 0 1000) 1000 116 106 0 (codeOf Tryz.f116) (finK (E116 L N) 1000 Tryz.f116 (finC (.many [(.st 2),.bool]) κ))) L (f116.T0 d e f g h) (f116.H0 d e f g h)) a c) (by kernel_rfl) ?_
 unfold f116.b
 simp only [f116.l0_eq]
 delta f116.X0_e0 f116.X0_r
 simp only [f116.p0_e0_eq,f116.p0_r_eq]
theorem f116.ok (L N:Nat) (hΦ:TellsOk Tryz.prog ((Φ99 L N))):EntOk Tryz.prog 116 (f116.ent L N):=entDa_ok (E:=(E116 L N)) (dep:=1000) (f:=Tryz.f116) (sound_of hΦ) okP (callI_sound (sound_of hΦ) okP 0 1000) rfl fun d _ hy=>(f116.b_eq L N (unR (.many [(.st 2),.bool])) d.1 d.2.1).trans (Eq.trans (b:=f116.b L N (fun a0 a1=>some (a0,a1)) d.1 d.2.1) (by kernel_rfl) hy)
def Φ116 (L N:Nat):Tells:=(addT (Φ99 L N) 116 (f116.ent L N))
theorem Φ116_ok (L N:Nat):TellsOk Tryz.prog (Φ116 L N):=addT_ok (Φ99_ok L N) (f116.ok L N (Φ99_ok L N))
def f73.b' (L N:Nat) (k:Graph->Bool->Option R) (a:Tree) (b:LT):Option R:=
 (f115 L N (Tree.mk a.op a.n a.parts) b).bind fun d=>
 bif (!d) then
  k (Graph.mk []) false
 else (f116 L N (Tree.mk a.op a.n a.parts) b).bind fun c=>
 k (Graph.mk c.1.moves) c.2
def f73.b (L N:Nat) (k:Graph->Bool->Option R) (a:Tree) (c:LT):Option R:=
 f73.b' L N k a c
def f73 (L N:Nat) (a:Tree) (c:LT):Option (Graph×Bool):=f73.b L N (fun a0 a1=>some (a0,a1)) a c
def f73.ent (L N:Nat):=entDa [(.st 1),(.sl (.st 1))] (.many [(.st 2),.bool]) fun d=>f73 L N d.1 d.2.1
noncomputable def E73 (L N:Nat):Env:={P:=Tryz.prog,ty:=tyOf,Φ:=(Φ116 L N),inl:=inlT,live:=lives,liveX:=livesX,L:=L,dp:=none,prom:=promT,heal:=healT,ren:=renT}
theorem f73.b_eq (L N:Nat) (κ:AV->Option R) (a:Tree) (c:LT):
  evBody (E73 L N) (evCallI (E73 L N) 0 1000) 1000 73 Tryz.f73 [(.tv (.st 1) a),(.tv (.sl (.st 1)) c)] [] [] (finC (.many [(.st 2),.bool]) κ)
  =f73.b L N (fun a0 a1=>κ (.tup [(.tv (.st 2) a0),(.tv .bool a1)])) a c:=by kernel_rfl
theorem f73.ok (L N:Nat) (hΦ:TellsOk Tryz.prog ((Φ116 L N))):EntOk Tryz.prog 73 (f73.ent L N):=entDa_ok (E:=(E73 L N)) (dep:=1000) (f:=Tryz.f73) (sound_of hΦ) okP (callI_sound (sound_of hΦ) okP 0 1000) rfl fun d _ hy=>(f73.b_eq L N (unR (.many [(.st 2),.bool])) d.1 d.2.1).trans (Eq.trans (b:=f73.b L N (fun a0 a1=>some (a0,a1)) d.1 d.2.1) (by kernel_rfl) hy)
def Φ73 (L N:Nat):Tells:=(addT (Φ116 L N) 73 (f73.ent L N))
theorem Φ73_ok (L N:Nat):TellsOk Tryz.prog (Φ73 L N):=addT_ok (Φ116_ok L N) (f73.ok L N (Φ116_ok L N))
def f75.s1' (L N:Nat) (k1_e2:Int->LLM->Option R) (k1_r:Bool->Int->LLM->Option R) (rec1:Int->Int->LLM->Option R) (a c:Int) (b:LLM):Option R:=
 bif (decide (0≤a)&&decide (a<(b.length:Int))) then
  bif (decide (c<((listAt b [] a.toNat).length:Int))) then
   bif (decide (0≤a)&&decide (a<(b.length:Int))) then
    bif (decide (0≤c)&&decide (c<((listAt b [] a.toNat).length:Int))) then
     (f118 L N ((listAt (listAt b [] a.toNat) (Ty.dflt (.st 0)) c.toNat).act)).bind fun d=>
     bif (!d) then
      k1_r false a b
     else (f54 L N ((listAt (listAt b [] a.toNat) (Ty.dflt (.st 0)) c.toNat).to) (0:Int) (wi ((b.length:Int)-(1:Int)))).bind fun e=>
     bif (!e) then
      k1_r false a b
     else bif (decide (c>(0:Int))) then
      bif (decide (0≤a)&&decide (a<(b.length:Int))) then
       bif (decide (0≤(wi (c-(1:Int))))&&decide ((wi (c-(1:Int)))<((listAt b [] a.toNat).length:Int))) then
        (f119 L N (listAt (listAt b [] a.toNat) (Ty.dflt (.st 0)) (wi (c-(1:Int))).toNat) (Move.mk ((listAt (listAt b [] a.toNat) (Ty.dflt (.st 0)) c.toNat).act) ((listAt (listAt b [] a.toNat) (Ty.dflt (.st 0)) c.toNat).to))).bind fun f=>
        bif (!f) then
         k1_r false a b
        else rec1 a (wi (c+(1:Int))) b
       else none
      else none
     else rec1 a (wi (c+(1:Int))) b
    else none
   else none
  else k1_e2 a b
 else none
def f75.s1 (L N:Nat) (k1_e2:Int->LLM->Option R) (k1_r:Bool->Int->LLM->Option R) (rec1:Int->Int->LLM->Option R) (a b:Int) (c:LLM):Option R:=
 f75.s1' L N k1_e2 k1_r rec1 a b c
def f75.l1 (L N:Nat) (k1_e2:Int->LLM->Option R) (k1_r:Bool->Int->LLM->Option R):Nat->Int->Int->LLM->Option R
 |0,_,_,_=>none
 |n+1,a,b,c=>f75.s1 L N k1_e2 k1_r (f75.l1 L N k1_e2 k1_r n) a b c
def f75.T1 (a b:Int) (c:LLM):T:=mkT 68 [(1,(.ptr 1001 0)),(3,(.tv i64 a)),(4,(.tv i64 b))]
def f75.H1 (b c:Int) (a:LLM):H:=[(1001,(.box [(.tv (.sl (.sl (.st 0))) a)]))]
def f75.T1_e2 (a:Int) (b:LLM):T:=mkT 68 [(1,(.ptr 1001 0)),(3,(.tv i64 a))]
def f75.H1_e2 (b:Int) (a:LLM):H:=[(1001,(.box [(.tv (.sl (.sl (.st 0))) a)]))]
def f75.T1_r (a:Bool) (b:Int) (c:LLM):T:=mkT 68 [(1,(.ptr 1001 0)),(2,(.tv .bool a)),(3,(.tv i64 b))]
def f75.H1_r (b:Bool) (c:Int) (a:LLM):H:=[(1001,(.box [(.tv (.sl (.sl (.st 0))) a)]))]
def f75.p1_e2' (L N:Nat) (k0_e0:Option R) (k0_r:Bool->Option R) (rec0:Int->LLM->Option R) (a:Int) (b:LLM):Option R:=
 rec0 (wi (a+(1:Int))) b
def f75.p1_e2 (L N:Nat) (k0_e0:Option R) (k0_r:Bool->Option R) (rec0:Int->LLM->Option R) (a:Int) (b:LLM):Option R:=
 f75.p1_e2' L N k0_e0 k0_r rec0 a b
def f75.p1_r' (L N:Nat) (k0_e0:Option R) (k0_r:Bool->Option R) (rec0:Int->LLM->Option R) (a:Bool) (b:Int) (c:LLM):Option R:=
 k0_r a
def f75.p1_r (L N:Nat) (k0_e0:Option R) (k0_r:Bool->Option R) (rec0:Int->LLM->Option R) (a:Bool) (b:Int) (c:LLM):Option R:=
 f75.p1_r' L N k0_e0 k0_r rec0 a b c
def f75.s0' (L N:Nat) (k0_e0:Option R) (k0_r:Bool->Option R) (rec0:Int->LLM->Option R) (c:Int->Int->LLM->Option R) (a:Int) (b:LLM):Option R:=
 bif (decide (a<(b.length:Int))) then
  c a (0:Int) b
 else k0_e0
def f75.s0 (L N:Nat) (k0_e0:Option R) (k0_r:Bool->Option R) (rec0:Int->LLM->Option R) (a:Int) (b:LLM):Option R:=
 f75.s0' L N k0_e0 k0_r rec0 (fun c d e=>f75.l1 L N (fun f g=>f75.p1_e2 L N k0_e0 k0_r rec0 f g) (fun h i j=>f75.p1_r L N k0_e0 k0_r rec0 h i j) L c d e) a b
def f75.l0 (L N:Nat) (k0_e0:Option R) (k0_r:Bool->Option R):Nat->Int->LLM->Option R
 |0,_,_=>none
 |n+1,a,b=>f75.s0 L N k0_e0 k0_r (f75.l0 L N k0_e0 k0_r n) a b
def f75.T0 (a:Int) (b:LLM):T:=mkT 68 [(1,(.ptr 1001 0)),(3,(.tv i64 a))]
def f75.H0 (b:Int) (a:LLM):H:=[(1001,(.box [(.tv (.sl (.sl (.st 0))) a)]))]
def f75.T0_e0:T:=mkT 68 []
def f75.H0_e0:H:=[]
def f75.T0_r (a:Bool):T:=mkT 68 [(2,(.tv .bool a))]
def f75.H0_r (a:Bool):H:=[]
def f75.p0_e0' (L N:Nat) (k:Bool->Option R):Option R:=
 k true
def f75.p0_e0 (L N:Nat) (k:Bool->Option R):Option R:=
 f75.p0_e0' L N k
def f75.p0_r' (L N:Nat) (k:Bool->Option R) (a:Bool):Option R:=
 k a
def f75.p0_r (L N:Nat) (k:Bool->Option R) (a:Bool):Option R:=
 f75.p0_r' L N k a
def f75.b' (L N:Nat) (k:Bool->Option R) (b:Int->LLM->Option R) (a:Graph):Option R:=
 (f54 L N (a.moves.length:Int) (1:Int) (60:Int)).bind fun c=>
 bif (!c) then
  k false
 else b (0:Int) a.moves
def f75.b (L N:Nat) (k:Bool->Option R) (a:Graph):Option R:=
 f75.b' L N k (fun c d=>f75.l0 L N (f75.p0_e0 L N k) (fun e=>f75.p0_r L N k e) L c d) a
def f75 (L N:Nat) (a:Graph):Option (Bool):=f75.b L N some a
def f75.ent (L N:Nat):=entRo [(.st 2)] (.one .bool) fun d=>f75 L N d.1
noncomputable def E75 (L N:Nat):Env:={P:=Tryz.prog,ty:=tyOf,Φ:=(Φ73 L N),inl:=inlT,live:=lives,liveX:=livesX,L:=L,dp:=none,prom:=promT,heal:=healT,ren:=renT}
noncomputable def f75.c0:Code:=loopAt 0 (codeOf Tryz.f75)
noncomputable def f75.c1:Code:=loopAt 2 f75.c0
def f75.X1_e2 (κ:KX R):=fun a b=>κ (.exit 2) (f75.T1_e2 a b) (f75.H1_e2 a b)
def f75.X1_r (κ:KX R):=fun a b c=>κ .ret (f75.T1_r a b c) (f75.H1_r a b c)
def f75.R1 (rec:KT R):=fun a b c=>rec (f75.T1 a b c) (f75.H1 a b c)
theorem f75.s1_eq (L N:Nat) (κ:KX R) (rec:KT R) (a b:Int) (c:LLM):
  evRd (E75 L N) (evCallI (E75 L N) 0 1000) 1000 75 68 2 f75.c1 κ rec (f75.T1 a b c) (f75.H1 a b c)
  =f75.s1 L N (f75.X1_e2 κ) (f75.X1_r κ) (f75.R1 rec) a b c:=by kernel_rfl
theorem f75.l1_eq (L N:Nat) (κ:KX R):∀(n:Nat) (a b:Int) (c:LLM),
  evLp (E75 L N) (evCallI (E75 L N) 0 1000) 1000 75 68 2 f75.c1 κ n (f75.T1 a b c) (f75.H1 a b c)
  =f75.l1 L N (f75.X1_e2 κ) (f75.X1_r κ) n a b c:=by
 intro n
 induction n with
 |zero=>intros;rfl
 |succ n ih=>
  intro a b c
  rw [evLp_succ,f75.s1_eq]
  delta f75.R1
  simp only [ih]
  rfl
def f75.X0_e0 (κ:KX R):=κ (.exit 0) f75.T0_e0 f75.H0_e0
def f75.X0_r (κ:KX R):=fun a=>κ .ret (f75.T0_r a) (f75.H0_r a)
def f75.R0 (rec:KT R):=fun a b=>rec (f75.T0 a b) (f75.H0 a b)
theorem f75.p1_e2_eq (L N:Nat) (κ:KX R) (rec:KT R) (a:Int) (b:LLM):
  (contAt (E75 L N) (evCallI (E75 L N) 0 1000) 1000 75 68 2 f75.c0 (rdK (E75 L N) 1000 75 68 0 κ rec)) (.exit 2) (f75.T1_e2 a b) (f75.H1_e2 a b)
  =f75.p1_e2 L N (f75.X0_e0 κ) (f75.X0_r κ) (f75.R0 rec) a b:=by kernel_rfl
theorem f75.p1_r_eq (L N:Nat) (κ:KX R) (rec:KT R) (a:Bool) (b:Int) (c:LLM):
  (contAt (E75 L N) (evCallI (E75 L N) 0 1000) 1000 75 68 2 f75.c0 (rdK (E75 L N) 1000 75 68 0 κ rec)) .ret (f75.T1_r a b c) (f75.H1_r a b c)
  =f75.p1_r L N (f75.X0_e0 κ) (f75.X0_r κ) (f75.R0 rec) a b c:=by kernel_rfl
theorem f75.s0_eq (L N:Nat) (κ:KX R) (rec:KT R) (a:Int) (c:LLM):
  evRd (E75 L N) (evCallI (E75 L N) 0 1000) 1000 75 68 0 f75.c0 κ rec (f75.T0 a c) (f75.H0 a c)
  =f75.s0 L N (f75.X0_e0 κ) (f75.X0_r κ) (f75.R0 rec) a c:=by
 refine Eq.trans (b:=f75.s0' L N (f75.X0_e0 κ) (f75.X0_r κ) (f75.R0 rec) (fun d e f=>evLp (E75 L N) (evCallI (E75 L N) 0 1000) 1000 75 68 2 f75.c1 (contAt (E75 L N) (evCallI (E75 L N) 0 1000) 1000 75 68 2 f75.c0 (rdK (E75 L N) 1000 75 68 0 κ rec)) L (f75.T1 d e f) (f75.H1 d e f)) a c) (by kernel_rfl) ?_
 unfold f75.s0
 simp only [f75.l1_eq]
 delta f75.X1_e2 f75.X1_r
 simp only [f75.p1_e2_eq,f75.p1_r_eq]
theorem f75.l0_eq (L N:Nat) (κ:KX R):∀(n:Nat) (a:Int) (b:LLM),
  evLp (E75 L N) (evCallI (E75 L N) 0 1000) 1000 75 68 0 f75.c0 κ n (f75.T0 a b) (f75.H0 a b)
  =f75.l0 L N (f75.X0_e0 κ) (f75.X0_r κ) n a b:=by
 intro n
 induction n with
 |zero=>intros;rfl
 |succ n ih=>
  intro a b
  rw [evLp_succ,f75.s0_eq]
  delta f75.R0
  simp only [ih]
  rfl
theorem f75.p0_e0_eq (L N:Nat) (κ:AV->Option R):
  (contAt (E75 L N) (evCallI (E75 L N) 0 1000) 1000 75 68 0 (codeOf Tryz.f75) (finK (E75 L N) 1000 Tryz.f75 (finC (.one .bool) κ))) (.exit 0) f75.T0_e0 f75.H0_e0
  =f75.p0_e0 L N (fun a0=>κ (.tv .bool a0)):=by kernel_rfl
theorem f75.p0_r_eq (L N:Nat) (κ:AV->Option R) (a:Bool):
  (contAt (E75 L N) (evCallI (E75 L N) 0 1000) 1000 75 68 0 (codeOf Tryz.f75) (finK (E75 L N) 1000 Tryz.f75 (finC (.one .bool) κ))) .ret (f75.T0_r a) (f75.H0_r a)
  =f75.p0_r L N (fun a0=>κ (.tv .bool a0)) a:=by kernel_rfl
theorem f75.b_eq (L N:Nat) (κ:AV->Option R) (a:Graph):
  evBody (E75 L N) (evCallI (E75 L N) 0 1000) 1000 75 Tryz.f75 [(.tv (.st 2) a)] [] [] (finC (.one .bool) κ)
  =f75.b L N (fun a0=>κ (.tv .bool a0)) a:=by
 refine Eq.trans (b:=f75.b' L N (fun a0=>κ (.tv .bool a0)) (fun c d=>evLp (E75 L N) (evCallI (E75 L N) 0 1000) 1000 75 68 0 f75.c0 (contAt (E75 L N) (evCallI (E75 L N) 0 1000) 1000 75 68 0 (codeOf Tryz.f75) (finK (E75 L N) 1000 Tryz.f75 (finC (.one .bool) κ))) L (f75.T0 c d) (f75.H0 c d)) a) (by kernel_rfl) ?_
 unfold f75.b
 simp only [f75.l0_eq]
 delta f75.X0_e0 f75.X0_r
 simp only [f75.p0_e0_eq,f75.p0_r_eq]
theorem f75.ok (L N:Nat) (hΦ:TellsOk Tryz.prog ((Φ73 L N))):EntOk Tryz.prog 75 (f75.ent L N):=entRo_ok (E:=(E75 L N)) (dep:=1000) (f:=Tryz.f75) (sound_of hΦ) okP (callI_sound (sound_of hΦ) okP 0 1000) rfl rfl fun d _ hy=>(f75.b_eq L N (unR (.one .bool)) d.1).trans (Eq.trans (b:=f75.b L N some d.1) (by kernel_rfl) hy)
def Φ75 (L N:Nat):Tells:=(addT (Φ73 L N) 75 (f75.ent L N))
theorem Φ75_ok (L N:Nat):TellsOk Tryz.prog (Φ75 L N):=addT_ok (Φ73_ok L N) (f75.ok L N (Φ73_ok L N))
def f117.s0' (L N:Nat) (k0_e0:LLM->LLM->LLM->Option R) (rec0:Int->LLM->LLM->LLM->Option R) (a:Int) (b d c:LLM):Option R:=
 bif (decide (a<(b.length:Int))) then
  bif (decide (0≤a)&&decide (a<(b.length:Int))) then
   bif (decide (([]:LM).length+(listAt b [] a.toNat).length≤lim)) then
    bif (decide (c.length+([(([]:LM)++(listAt b [] a.toNat))]:LLM).length≤lim)) then
     rec0 (wi (a+(1:Int))) b d (c++([(([]:LM)++(listAt b [] a.toNat))]:LLM))
    else none
   else none
  else none
 else k0_e0 b d c
def f117.s0 (L N:Nat) (k0_e0:LLM->LLM->LLM->Option R) (rec0:Int->LLM->LLM->LLM->Option R) (a:Int) (b c d:LLM):Option R:=
 f117.s0' L N k0_e0 rec0 a b c d
def f117.l0 (L N:Nat) (k0_e0:LLM->LLM->LLM->Option R):Nat->Int->LLM->LLM->LLM->Option R
 |0,_,_,_,_=>none
 |n+1,a,b,c,d=>f117.s0 L N k0_e0 (f117.l0 L N k0_e0 n) a b c d
def f117.T0 (a:Int) (b c d:LLM):T:=mkT 83 [(2,(.ptr 1002 0)),(3,(.ptr 1003 0)),(4,(.ptr 1004 0)),(5,(.ptr 1005 0)),(6,(.tv i64 a))]
def f117.H0 (d:Int) (a b c:LLM):H:=[(1002,(.box [(.tv (.sl (.sl (.st 0))) a)])),(1003,(.box [(.tv (.sl (.sl (.st 0))) b)])),(1004,(.box [.nil])),(1005,(.box [(.row 1900)])),(1900,(.row 61 (.sl (.st 0)) c))]
def f117.T0_e0 (a b c:LLM):T:=mkT 83 [(2,(.ptr 1002 0)),(3,(.ptr 1003 0)),(4,(.ptr 1004 0)),(5,(.ptr 1005 0))]
def f117.H0_e0 (a b c:LLM):H:=[(1002,(.box [(.tv (.sl (.sl (.st 0))) a)])),(1003,(.box [(.tv (.sl (.sl (.st 0))) b)])),(1004,(.box [.nil])),(1005,(.box [(.row 1900)])),(1900,(.row 61 (.sl (.st 0)) c))]
def f117.s2' (L N:Nat) (k2_e4:Int->Int->LLM->LM->LLM->Option R) (rec2:Int->Int->Int->LLM->LM->LLM->Option R) (d a c:Int) (b:LLM) (e:LM) (f:LLM):Option R:=
 bif (decide (0≤a)&&decide (a<(b.length:Int))) then
  bif (decide (c<((listAt b [] a.toNat).length:Int))) then
   bif (decide (0≤a)&&decide (a<(b.length:Int))) then
    bif (decide (0≤c)&&decide (c<((listAt b [] a.toNat).length:Int))) then
     bif (decide (0≤a)&&decide (a<(b.length:Int))) then
      bif (decide (0≤c)&&decide (c<((listAt b [] a.toNat).length:Int))) then
       bif (decide (e.length+([(Move.mk ((listAt (listAt b [] a.toNat) (Ty.dflt (.st 0)) c.toNat).act) (wi ((listAt (listAt b [] a.toNat) (Ty.dflt (.st 0)) c.toNat).to+d)))]:LM).length≤lim)) then
        rec2 d a (wi (c+(1:Int))) b (e++([(Move.mk ((listAt (listAt b [] a.toNat) (Ty.dflt (.st 0)) c.toNat).act) (wi ((listAt (listAt b [] a.toNat) (Ty.dflt (.st 0)) c.toNat).to+d)))]:LM)) f
       else none
      else none
     else none
    else none
   else none
  else k2_e4 d a b e f
 else none
def f117.s2 (L N:Nat) (k2_e4:Int->Int->LLM->LM->LLM->Option R) (rec2:Int->Int->Int->LLM->LM->LLM->Option R) (a b c:Int) (d:LLM) (e:LM) (f:LLM):Option R:=
 f117.s2' L N k2_e4 rec2 a b c d e f
def f117.l2 (L N:Nat) (k2_e4:Int->Int->LLM->LM->LLM->Option R):Nat->Int->Int->Int->LLM->LM->LLM->Option R
 |0,_,_,_,_,_,_=>none
 |n+1,a,b,c,d,e,f=>f117.s2 L N k2_e4 (f117.l2 L N k2_e4 n) a b c d e f
def f117.T2 (a b c:Int) (d:LLM) (e:LM) (f:LLM):T:=mkT 83 [(3,(.ptr 1003 0)),(4,(.ptr 1004 0)),(5,(.ptr 1005 0)),(7,(.tv i64 a)),(8,(.tv i64 b)),(9,(.row 1041)),(10,(.tv i64 c))]
def f117.H2 (d e f:Int) (a:LLM) (b:LM) (c:LLM):H:=[(1003,(.box [(.tv (.sl (.sl (.st 0))) a)])),(1004,(.box [.nil])),(1005,(.box [(.row 1900)])),(1041,(.row 63 (.st 0) b)),(1900,(.row 61 (.sl (.st 0)) c))]
def f117.T2_e4 (a b:Int) (c:LLM) (d:LM) (e:LLM):T:=mkT 83 [(3,(.ptr 1003 0)),(4,(.ptr 1004 0)),(5,(.ptr 1005 0)),(7,(.tv i64 a)),(8,(.tv i64 b)),(9,(.row 1041))]
def f117.H2_e4 (d e:Int) (a:LLM) (b:LM) (c:LLM):H:=[(1003,(.box [(.tv (.sl (.sl (.st 0))) a)])),(1004,(.box [.nil])),(1005,(.box [(.row 1900)])),(1041,(.row 63 (.st 0) b)),(1900,(.row 61 (.sl (.st 0)) c))]
def f117.p2_e4' (L N:Nat) (k1_e2:LLM->Option R) (rec1:Int->Int->LLM->LLM->Option R) (c d:Int) (e:LLM) (a:LM) (b:LLM):Option R:=
 bif (decide (b.length+([a]:LLM).length≤lim)) then
  rec1 c (wi (d+(1:Int))) e (b++([a]:LLM))
 else none
def f117.p2_e4 (L N:Nat) (k1_e2:LLM->Option R) (rec1:Int->Int->LLM->LLM->Option R) (a b:Int) (c:LLM) (d:LM) (e:LLM):Option R:=
 f117.p2_e4' L N k1_e2 rec1 a b c d e
def f117.s1' (L N:Nat) (k1_e2:LLM->Option R) (rec1:Int->Int->LLM->LLM->Option R) (d:Int->Int->Int->LLM->LM->LLM->Option R) (e a:Int) (b c:LLM):Option R:=
 bif (decide (a<(b.length:Int))) then
  d e a (0:Int) b ([]:LM) c
 else k1_e2 c
def f117.s1 (L N:Nat) (k1_e2:LLM->Option R) (rec1:Int->Int->LLM->LLM->Option R) (a b:Int) (c d:LLM):Option R:=
 f117.s1' L N k1_e2 rec1 (fun e f g h i j=>f117.l2 L N (fun k l m n o=>f117.p2_e4 L N k1_e2 rec1 k l m n o) L e f g h i j) a b c d
def f117.l1 (L N:Nat) (k1_e2:LLM->Option R):Nat->Int->Int->LLM->LLM->Option R
 |0,_,_,_,_=>none
 |n+1,a,b,c,d=>f117.s1 L N k1_e2 (f117.l1 L N k1_e2 n) a b c d
def f117.T1 (a b:Int) (c d:LLM):T:=mkT 83 [(3,(.ptr 1003 0)),(4,(.ptr 1004 0)),(5,(.ptr 1005 0)),(7,(.tv i64 a)),(8,(.tv i64 b))]
def f117.H1 (c d:Int) (a b:LLM):H:=[(1003,(.box [(.tv (.sl (.sl (.st 0))) a)])),(1004,(.box [.nil])),(1005,(.box [(.row 1900)])),(1900,(.row 61 (.sl (.st 0)) b))]
def f117.T1_e2 (a:LLM):T:=mkT 83 [(4,(.ptr 1004 0)),(5,(.ptr 1005 0))]
def f117.H1_e2 (a:LLM):H:=[(1004,(.box [.nil])),(1005,(.box [(.row 1900)])),(1900,(.row 61 (.sl (.st 0)) a))]
def f117.p1_e2' (L N:Nat) (k:Graph->Option R) (a:LLM):Option R:=
 k (Graph.mk a)
def f117.p1_e2 (L N:Nat) (k:Graph->Option R) (a:LLM):Option R:=
 f117.p1_e2' L N k a
def f117.p0_e0' (L N:Nat) (k:Graph->Option R) (a:Int->Int->LLM->LLM->Option R) (b c d:LLM):Option R:=
 a (b.length:Int) (0:Int) c d
def f117.p0_e0 (L N:Nat) (k:Graph->Option R) (a b c:LLM):Option R:=
 f117.p0_e0' L N k (fun d e f g=>f117.l1 L N (fun h=>f117.p1_e2 L N k h) L d e f g) a b c
def f117.b' (L N:Nat) (k:Graph->Option R) (a:Int->LLM->LLM->LLM->Option R) (b c:Graph):Option R:=
 a (0:Int) b.moves c.moves ([]:LLM)
def f117.b (L N:Nat) (k:Graph->Option R) (a c:Graph):Option R:=
 f117.b' L N k (fun d e f g=>f117.l0 L N (fun h i j=>f117.p0_e0 L N k h i j) L d e f g) a c
def f117 (L N:Nat) (a c:Graph):Option (Graph):=f117.b L N some a c
def f117.ent (L N:Nat):=entDa [(.st 2),(.st 2)] (.one (.st 2)) fun d=>f117 L N d.1 d.2.1
noncomputable def E117 (L N:Nat):Env:={P:=Tryz.prog,ty:=tyOf,Φ:=(Φ75 L N),inl:=inlT,live:=lives,liveX:=livesX,L:=L,dp:=none,prom:=promT,heal:=healT,ren:=renT,fresh:=fun s=>Nat.beq s 1027}
noncomputable def f117.c0:Code:=loopAt 0 (codeOf Tryz.f117)
def f117.X0_e0 (κ:KX R):=fun a b c=>κ (.exit 0) (f117.T0_e0 a b c) (f117.H0_e0 a b c)
def f117.R0 (rec:KT R):=fun a b c d=>rec (f117.T0 a b c d) (f117.H0 a b c d)
theorem f117.s0_eq (L N:Nat) (κ:KX R) (rec:KT R) (a:Int) (b c d:LLM):
  evRd (E117 L N) (evCallI (E117 L N) 0 1000) 1000 117 83 0 f117.c0 κ rec (f117.T0 a b c d) (f117.H0 a b c d)
  =f117.s0 L N (f117.X0_e0 κ) (f117.R0 rec) a b c d:=by kernel_rfl
theorem f117.l0_eq (L N:Nat) (κ:KX R):∀(n:Nat) (a:Int) (b c d:LLM),
  evLp (E117 L N) (evCallI (E117 L N) 0 1000) 1000 117 83 0 f117.c0 κ n (f117.T0 a b c d) (f117.H0 a b c d)
  =f117.l0 L N (f117.X0_e0 κ) n a b c d:=by
 intro n
 induction n with
 |zero=>intros;rfl
 |succ n ih=>
  intro a b c d
  rw [evLp_succ,f117.s0_eq]
  delta f117.R0
  simp only [ih]
  rfl
noncomputable def f117.c1:Code:=loopAt 2 (codeOf Tryz.f117)
noncomputable def f117.c2:Code:=loopAt 4 f117.c1
def f117.X2_e4 (κ:KX R):=fun a b c d e=>κ (.exit 4) (f117.T2_e4 a b c d e) (f117.H2_e4 a b c d e)
def f117.R2 (rec:KT R):=fun a b c d e f=>rec (f117.T2 a b c d e f) (f117.H2 a b c d e f)
theorem f117.s2_eq (L N:Nat) (κ:KX R) (rec:KT R) (a b c:Int) (d:LLM) (e:LM) (f:LLM):
  evRd (E117 L N) (evCallI (E117 L N) 0 1000) 1000 117 83 4 f117.c2 κ rec (f117.T2 a b c d e f) (f117.H2 a b c d e f)
  =f117.s2 L N (f117.X2_e4 κ) (f117.R2 rec) a b c d e f:=by kernel_rfl
theorem f117.l2_eq (L N:Nat) (κ:KX R):∀(n:Nat) (a b c:Int) (d:LLM) (e:LM) (f:LLM),
  evLp (E117 L N) (evCallI (E117 L N) 0 1000) 1000 117 83 4 f117.c2 κ n (f117.T2 a b c d e f) (f117.H2 a b c d e f)
  =f117.l2 L N (f117.X2_e4 κ) n a b c d e f:=by
 intro n
 induction n with
 |zero=>intros;rfl
 |succ n ih=>
  intro a b c d e f
  rw [evLp_succ,f117.s2_eq]
  delta f117.R2
  simp only [ih]
  rfl
def f117.X1_e2 (κ:KX R):=fun a=>κ (.exit 2) (f117.T1_e2 a) (f117.H1_e2 a)
def f117.R1 (rec:KT R):=fun a b c d=>rec (f117.T1 a b c d) (f117.H1 a b c d)
theorem f117.p2_e4_eq (L N:Nat) (κ:KX R) (rec:KT R) (a b:Int) (c:LLM) (d:LM) (e:LLM):
  (contAt (E117 L N) (evCallI (E117 L N) 0 1000) 1000 117 83 4 f117.c1 (rdK (E117 L N) 1000 117 83 2 κ rec)) (.exit 4) (f117.T2_e4 a b c d e) (f117.H2_e4 a b c d e)
  =f117.p2_e4 L N (f117.X1_e2 κ) (f117.R1 rec) a b c d e:=by kernel_rfl
theorem f117.s1_eq (L N:Nat) (κ:KX R) (rec:KT R) (a c:Int) (d e:LLM):
  evRd (E117 L N) (evCallI (E117 L N) 0 1000) 1000 117 83 2 f117.c1 κ rec (f117.T1 a c d e) (f117.H1 a c d e)
  =f117.s1 L N (f117.X1_e2 κ) (f117.R1 rec) a c d e:=by
 refine Eq.trans (b:=f117.s1' L N (f117.X1_e2 κ) (f117.R1 rec) (fun f g h i j k=>evLp (E117 L N) (evCallI (E117 L N) 0 1000) 1000 117 83 4 f117.c2 (contAt (E117 L N) (evCallI (E117 L N) 0 1000) 1000 117 83 4 f117.c1 (rdK (E117 L N) 1000 117 83 2 κ rec)) L (f117.T2 f g h i j k) (f117.H2 f g h i j k)) a c d e) (by kernel_rfl) ?_
 unfold f117.s1
 simp only [f117.l2_eq]
 delta f117.X2_e4
 simp only [f117.p2_e4_eq]
theorem f117.l1_eq (L N:Nat) (κ:KX R):∀(n:Nat) (a b:Int) (c d:LLM),
  evLp (E117 L N) (evCallI (E117 L N) 0 1000) 1000 117 83 2 f117.c1 κ n (f117.T1 a b c d) (f117.H1 a b c d)
  =f117.l1 L N (f117.X1_e2 κ) n a b c d:=by
 intro n
 induction n with
 |zero=>intros;rfl
 |succ n ih=>
  intro a b c d
  rw [evLp_succ,f117.s1_eq]
  delta f117.R1
  simp only [ih]
  rfl
theorem f117.p1_e2_eq (L N:Nat) (κ:AV->Option R) (a:LLM):
  (contAt (E117 L N) (evCallI (E117 L N) 0 1000) 1000 117 83 2 (codeOf Tryz.f117) (finK (E117 L N) 1000 Tryz.f117 (finC (.one (.st 2)) κ))) (.exit 2) (f117.T1_e2 a) (f117.H1_e2 a)
  =f117.p1_e2 L N (fun a0=>κ (.tv (.st 2) a0)) a:=by kernel_rfl
theorem f117.p0_e0_eq (L N:Nat) (κ:AV->Option R) (a c d:LLM):
  (contAt (E117 L N) (evCallI (E117 L N) 0 1000) 1000 117 83 0 (codeOf Tryz.f117) (finK (E117 L N) 1000 Tryz.f117 (finC (.one (.st 2)) κ))) (.exit 0) (f117.T0_e0 a c d) (f117.H0_e0 a c d)
  =f117.p0_e0 L N (fun a0=>κ (.tv (.st 2) a0)) a c d:=by
 refine Eq.trans (b:=f117.p0_e0' L N (fun a0=>κ (.tv (.st 2) a0)) (fun e f g h=>evLp (E117 L N) (evCallI (E117 L N) 0 1000) 1000 117 83 2 f117.c1 (contAt (E117 L N) (evCallI (E117 L N) 0 1000) 1000 117 83 2 (codeOf Tryz.f117) (finK (E117 L N) 1000 Tryz.f117 (finC (.one (.st 2)) κ))) L (f117.T1 e f g h) (f117.H1 e f g h)) a c d) (by kernel_rfl) ?_
 unfold f117.p0_e0
 simp only [f117.l1_eq]
 delta f117.X1_e2
 simp only [f117.p1_e2_eq]
theorem f117.b_eq (L N:Nat) (κ:AV->Option R) (a c:Graph):
  evBody (E117 L N) (evCallI (E117 L N) 0 1000) 1000 117 Tryz.f117 [(.tv (.st 2) a),(.tv (.st 2) c)] [] [] (finC (.one (.st 2)) κ)
  =f117.b L N (fun a0=>κ (.tv (.st 2) a0)) a c:=by
 refine Eq.trans (b:=f117.b' L N (fun a0=>κ (.tv (.st 2) a0)) (fun d e f g=>evLp (E117 L N) (evCallI (E117 L N) 0 1000) 1000 117 83 0 f117.c0 (contAt (E117 L N) (evCallI (E117 L N) 0 1000) 1000 117 83 0 (codeOf Tryz.f117) (finK (E117 L N) 1000 Tryz.f117 (finC (.one (.st 2)) κ))) L (f117.T0 d e f g) (f117.H0 d e f g)) a c) (by kernel_rfl) ?_
 unfold f117.b
 simp only [f117.l0_eq]
 delta f117.X0_e0
 simp only [f117.p0_e0_eq]
theorem f117.ok (L N:Nat) (hΦ:TellsOk Tryz.prog ((Φ75 L N))):EntOk Tryz.prog 117 (f117.ent L N):=entDa_ok (E:=(E117 L N)) (dep:=1000) (f:=Tryz.f117) (sound_of hΦ) okP (callI_sound (sound_of hΦ) okP 0 1000) rfl fun d _ hy=>(f117.b_eq L N (unR (.one (.st 2))) d.1 d.2.1).trans (Eq.trans (b:=f117.b L N some d.1 d.2.1) (by kernel_rfl) hy)
def Φ117 (L N:Nat):Tells:=(addT (Φ75 L N) 117 (f117.ent L N))
theorem Φ117_ok (L N:Nat):TellsOk Tryz.prog (Φ117 L N):=addT_ok (Φ75_ok L N) (f117.ok L N (Φ75_ok L N))
def f74.b' (L N:Nat) (k:Graph->Bool->Option R) (a b:Graph):Option R:=
 (f75 L N (Graph.mk a.moves)).bind fun c=>
 bif (!c) then
  k (Graph.mk []) false
 else (f75 L N (Graph.mk b.moves)).bind fun d=>
 bif (!d) then
  k (Graph.mk []) false
 else bif (decide ((wi ((a.moves.length:Int)+(b.moves.length:Int)))>(60:Int))) then
  k (Graph.mk []) false
 else (f117 L N (Graph.mk a.moves) (Graph.mk b.moves)).bind fun e=>
 k (Graph.mk e.moves) true
def f74.b (L N:Nat) (k:Graph->Bool->Option R) (a c:Graph):Option R:=
 f74.b' L N k a c
def f74 (L N:Nat) (a c:Graph):Option (Graph×Bool):=f74.b L N (fun a0 a1=>some (a0,a1)) a c
def f74.ent (L N:Nat):=entDa [(.st 2),(.st 2)] (.many [(.st 2),.bool]) fun d=>f74 L N d.1 d.2.1
noncomputable def E74 (L N:Nat):Env:={P:=Tryz.prog,ty:=tyOf,Φ:=(Φ117 L N),inl:=inlT,live:=lives,liveX:=livesX,L:=L,dp:=none,prom:=promT,heal:=healT,ren:=renT}
theorem f74.b_eq (L N:Nat) (κ:AV->Option R) (a c:Graph):
  evBody (E74 L N) (evCallI (E74 L N) 0 1000) 1000 74 Tryz.f74 [(.tv (.st 2) a),(.tv (.st 2) c)] [] [] (finC (.many [(.st 2),.bool]) κ)
  =f74.b L N (fun a0 a1=>κ (.tup [(.tv (.st 2) a0),(.tv .bool a1)])) a c:=by kernel_rfl
theorem f74.ok (L N:Nat) (hΦ:TellsOk Tryz.prog ((Φ117 L N))):EntOk Tryz.prog 74 (f74.ent L N):=entDa_ok (E:=(E74 L N)) (dep:=1000) (f:=Tryz.f74) (sound_of hΦ) okP (callI_sound (sound_of hΦ) okP 0 1000) rfl fun d _ hy=>(f74.b_eq L N (unR (.many [(.st 2),.bool])) d.1 d.2.1).trans (Eq.trans (b:=f74.b L N (fun a0 a1=>some (a0,a1)) d.1 d.2.1) (by kernel_rfl) hy)
def Φ74 (L N:Nat):Tells:=(addT (Φ117 L N) 74 (f74.ent L N))
theorem Φ74_ok (L N:Nat):TellsOk Tryz.prog (Φ74 L N):=addT_ok (Φ117_ok L N) (f74.ok L N (Φ117_ok L N))
def f43.b' (L N:Nat) (k:Graph->Int->Bool->Option R) (a b:Tree) (d:LT):Option R:=
 (f73 L N (Tree.mk a.op a.n a.parts) d).bind fun c=>
 (f73 L N (Tree.mk b.op b.n b.parts) d).bind fun e=>
 bif (!c.2) then
  k (Graph.mk []) (0:Int) false
 else bif (!e.2) then
  k (Graph.mk []) (0:Int) false
 else (f74 L N (Graph.mk c.1.moves) (Graph.mk e.1.moves)).bind fun f=>
 k (Graph.mk ((Graph.mk f.1.moves).moves)) (c.1.moves.length:Int) f.2
def f43.b (L N:Nat) (k:Graph->Int->Bool->Option R) (a c:Tree) (d:LT):Option R:=
 f43.b' L N k a c d
def f43 (L N:Nat) (a c:Tree) (d:LT):Option (Graph×Int×Bool):=f43.b L N (fun a0 a1 a2=>some (a0,a1,a2)) a c d
def f43.ent (L N:Nat):=entDa [(.st 1),(.st 1),(.sl (.st 1))] (.many [(.st 2),i64,.bool]) fun d=>f43 L N d.1 d.2.1 d.2.2.1
noncomputable def E43 (L N:Nat):Env:={P:=Tryz.prog,ty:=tyOf,Φ:=(Φ74 L N),inl:=inlT,live:=lives,liveX:=livesX,L:=L,dp:=none,prom:=promT,heal:=healT,ren:=renT}
theorem f43.b_eq (L N:Nat) (κ:AV->Option R) (a c:Tree) (d:LT):
  evBody (E43 L N) (evCallI (E43 L N) 0 1000) 1000 43 Tryz.f43 [(.tv (.st 1) a),(.tv (.st 1) c),(.tv (.sl (.st 1)) d)] [] [] (finC (.many [(.st 2),i64,.bool]) κ)
  =f43.b L N (fun a0 a1 a2=>κ (.tup [(.tv (.st 2) a0),(.tv i64 a1),(.tv .bool a2)])) a c d:=by kernel_rfl
theorem f43.ok (L N:Nat) (hΦ:TellsOk Tryz.prog ((Φ74 L N))):EntOk Tryz.prog 43 (f43.ent L N):=entDa_ok (E:=(E43 L N)) (dep:=1000) (f:=Tryz.f43) (sound_of hΦ) okP (callI_sound (sound_of hΦ) okP 0 1000) rfl fun d _ hy=>(f43.b_eq L N (unR (.many [(.st 2),i64,.bool])) d.1 d.2.1 d.2.2.1).trans (Eq.trans (b:=f43.b L N (fun a0 a1 a2=>some (a0,a1,a2)) d.1 d.2.1 d.2.2.1) (by kernel_rfl) hy)
def Φ43 (L N:Nat):Tells:=(addT (Φ74 L N) 43 (f43.ent L N))
theorem Φ43_ok (L N:Nat):TellsOk Tryz.prog (Φ43 L N):=addT_ok (Φ74_ok L N) (f43.ok L N (Φ74_ok L N))
def f77.j0' (L N:Nat) (k2_e4:Int->Int->LLM->LLB->LB->LI->Option R) (rec2:Int->Int->LM->Int->LLM->LLB->LB->LI->Option R) (e f:Int) (b:LM) (a:Int) (i:Bool) (g:LLM) (h:LLB) (c:LB) (d:LI):Option R:=
 bif i then
  bif (decide (0≤a)&&decide (a<(b.length:Int))) then
   bif (decide (0≤(listAt b (Ty.dflt (.st 0)) a.toNat).to)&&decide ((listAt b (Ty.dflt (.st 0)) a.toNat).to<(c.length:Int))) then
    bif (decide (0≤a)&&decide (a<(b.length:Int))) then
     bif (decide (d.length+([(listAt b (Ty.dflt (.st 0)) a.toNat).to]:LI).length≤lim)) then
      rec2 e f b (wi (a+(1:Int))) g h (c.set (((listAt b (Ty.dflt (.st 0)) a.toNat).to).toNat) true) (d++([(listAt b (Ty.dflt (.st 0)) a.toNat).to]:LI))
     else none
    else none
   else none
  else none
 else rec2 e f b (wi (a+(1:Int))) g h c d
def f77.s2' (L N:Nat) (k2_e4:Int->Int->LLM->LLB->LB->LI->Option R) (rec2:Int->Int->LM->Int->LLM->LLB->LB->LI->Option R) (d e:Int) (b:LM) (a:Int) (f:LLM) (g:LLB) (c:LB) (h:LI):Option R:=
 bif (decide (a<(b.length:Int))) then
  bif (decide (0≤a)&&decide (a<(b.length:Int))) then
   bif ((listAt b (Ty.dflt (.st 0)) a.toNat).act==(0:Int)) then
    bif (decide (0≤a)&&decide (a<(b.length:Int))) then
     bif (decide (0≤(listAt b (Ty.dflt (.st 0)) a.toNat).to)&&decide ((listAt b (Ty.dflt (.st 0)) a.toNat).to<(c.length:Int))) then
      f77.j0' L N k2_e4 rec2 d e b a (!(listAt c false ((listAt b (Ty.dflt (.st 0)) a.toNat).to).toNat)) f g c h
     else none
    else none
   else f77.j0' L N k2_e4 rec2 d e b a false f g c h
  else none
 else k2_e4 d e f g c h
def f77.s2 (L N:Nat) (k2_e4:Int->Int->LLM->LLB->LB->LI->Option R) (rec2:Int->Int->LM->Int->LLM->LLB->LB->LI->Option R) (a b:Int) (c:LM) (d:Int) (e:LLM) (f:LLB) (g:LB) (h:LI):Option R:=
 f77.s2' L N k2_e4 rec2 a b c d e f g h
def f77.l2 (L N:Nat) (k2_e4:Int->Int->LLM->LLB->LB->LI->Option R):Nat->Int->Int->LM->Int->LLM->LLB->LB->LI->Option R
 |0,_,_,_,_,_,_,_,_=>none
 |n+1,a,b,c,d,e,f,g,h=>f77.s2 L N k2_e4 (f77.l2 L N k2_e4 n) a b c d e f g h
def f77.T2 (a b:Int) (c:LM) (d:Int) (e:LLM) (f:LLB) (g:LB) (h:LI):T:=mkT 84 [(1,(.ptr 1001 0)),(3,(.row 1010)),(4,(.tv i64 a)),(5,(.row 1021)),(6,(.row 1026)),(7,(.tv i64 b)),(8,(.tv (.sl (.st 0)) c)),(9,(.tv i64 d))]
def f77.H2 (e f:Int) (g:LM) (h:Int) (a:LLM) (b:LLB) (c:LB) (d:LI):H:=[(1001,(.box [(.tv (.sl (.sl (.st 0))) a)])),(1010,(.row 94 (.sl .bool) b)),(1021,(.row 4 .bool c)),(1026,(.row 3 i64 d))]
def f77.T2_e4 (a b:Int) (c:LLM) (d:LLB) (e:LB) (f:LI):T:=mkT 84 [(1,(.ptr 1001 0)),(3,(.row 1010)),(4,(.tv i64 a)),(5,(.row 1021)),(6,(.row 1026)),(7,(.tv i64 b))]
def f77.H2_e4 (e f:Int) (a:LLM) (b:LLB) (c:LB) (d:LI):H:=[(1001,(.box [(.tv (.sl (.sl (.st 0))) a)])),(1010,(.row 94 (.sl .bool) b)),(1021,(.row 4 .bool c)),(1026,(.row 3 i64 d))]
def f77.p2_e4' (L N:Nat) (k1_e2:Int->LLM->LLB->LB->Option R) (rec1:Int->Int->LLM->LLB->LB->LI->Option R) (a b:Int) (c:LLM) (d:LLB) (e:LB) (f:LI):Option R:=
 rec1 a (wi (b+(1:Int))) c d e f
def f77.p2_e4 (L N:Nat) (k1_e2:Int->LLM->LLB->LB->Option R) (rec1:Int->Int->LLM->LLB->LB->LI->Option R) (a b:Int) (c:LLM) (d:LLB) (e:LB) (f:LI):Option R:=
 f77.p2_e4' L N k1_e2 rec1 a b c d e f
def f77.s1' (L N:Nat) (k1_e2:Int->LLM->LLB->LB->Option R) (rec1:Int->Int->LLM->LLB->LB->LI->Option R) (g:Int->Int->LM->Int->LLM->LLB->LB->LI->Option R) (d a:Int) (c:LLM) (e:LLB) (f:LB) (b:LI):Option R:=
 bif (decide (a<(b.length:Int))) then
  bif (decide (0≤a)&&decide (a<(b.length:Int))) then
   bif (decide (0≤(listAt b (0:Int) a.toNat))&&decide ((listAt b (0:Int) a.toNat)<(c.length:Int))) then
    g d a (listAt c [] (listAt b (0:Int) a.toNat).toNat) (0:Int) c e f b
   else none
  else none
 else k1_e2 d c e f
def f77.s1 (L N:Nat) (k1_e2:Int->LLM->LLB->LB->Option R) (rec1:Int->Int->LLM->LLB->LB->LI->Option R) (a b:Int) (c:LLM) (d:LLB) (e:LB) (f:LI):Option R:=
 f77.s1' L N k1_e2 rec1 (fun g h i j k l m n=>f77.l2 L N (fun o p q r s t=>f77.p2_e4 L N k1_e2 rec1 o p q r s t) L g h i j k l m n) a b c d e f
def f77.l1 (L N:Nat) (k1_e2:Int->LLM->LLB->LB->Option R):Nat->Int->Int->LLM->LLB->LB->LI->Option R
 |0,_,_,_,_,_,_=>none
 |n+1,a,b,c,d,e,f=>f77.s1 L N k1_e2 (f77.l1 L N k1_e2 n) a b c d e f
def f77.T1 (a b:Int) (c:LLM) (d:LLB) (e:LB) (f:LI):T:=mkT 84 [(1,(.ptr 1001 0)),(3,(.row 1010)),(4,(.tv i64 a)),(5,(.row 1021)),(6,(.row 1026)),(7,(.tv i64 b))]
def f77.H1 (e f:Int) (a:LLM) (b:LLB) (c:LB) (d:LI):H:=[(1001,(.box [(.tv (.sl (.sl (.st 0))) a)])),(1010,(.row 94 (.sl .bool) b)),(1021,(.row 4 .bool c)),(1026,(.row 3 i64 d))]
def f77.T1_e2 (a:Int) (b:LLM) (c:LLB) (d:LB):T:=mkT 84 [(1,(.ptr 1001 0)),(3,(.row 1010)),(4,(.tv i64 a)),(5,(.row 1021))]
def f77.H1_e2 (d:Int) (a:LLM) (b:LLB) (c:LB):H:=[(1001,(.box [(.tv (.sl (.sl (.st 0))) a)])),(1010,(.row 94 (.sl .bool) b)),(1021,(.row 4 .bool c))]
def f77.p1_e2' (L N:Nat) (k0_e0:LLB->Option R) (rec0:Int->LLM->LLB->Option R) (c:Int) (d:LLM) (a:LLB) (b:LB):Option R:=
 bif (decide (a.length+([b]:LLB).length≤lim)) then
  rec0 (wi (c+(1:Int))) d (a++([b]:LLB))
 else none
def f77.p1_e2 (L N:Nat) (k0_e0:LLB->Option R) (rec0:Int->LLM->LLB->Option R) (a:Int) (b:LLM) (c:LLB) (d:LB):Option R:=
 f77.p1_e2' L N k0_e0 rec0 a b c d
def f77.s0' (L N:Nat) (k0_e0:LLB->Option R) (rec0:Int->LLM->LLB->Option R) (d:Int->Int->LLM->LLB->LB->LI->Option R) (a:Int) (b:LLM) (c:LLB):Option R:=
 bif (decide (a<(b.length:Int))) then
  bif (decide (0≤(b.length:Int))&&decide ((b.length:Int)≤(lim:Int))) then
   bif (decide (0≤a)&&decide (a<((List.replicate (b.length:Int).toNat false).length:Int))) then
    d a (0:Int) b c ((List.replicate (b.length:Int).toNat false).set a.toNat true) ([a]:LI)
   else none
  else none
 else k0_e0 c
def f77.s0 (L N:Nat) (k0_e0:LLB->Option R) (rec0:Int->LLM->LLB->Option R) (a:Int) (b:LLM) (c:LLB):Option R:=
 f77.s0' L N k0_e0 rec0 (fun d e f g h i=>f77.l1 L N (fun j k l m=>f77.p1_e2 L N k0_e0 rec0 j k l m) L d e f g h i) a b c
def f77.l0 (L N:Nat) (k0_e0:LLB->Option R):Nat->Int->LLM->LLB->Option R
 |0,_,_,_=>none
 |n+1,a,b,c=>f77.s0 L N k0_e0 (f77.l0 L N k0_e0 n) a b c
def f77.T0 (a:Int) (b:LLM) (c:LLB):T:=mkT 84 [(1,(.ptr 1001 0)),(3,(.row 1010)),(4,(.tv i64 a))]
def f77.H0 (c:Int) (a:LLM) (b:LLB):H:=[(1001,(.box [(.tv (.sl (.sl (.st 0))) a)])),(1010,(.row 94 (.sl .bool) b))]
def f77.T0_e0 (a:LLB):T:=mkT 84 [(3,(.row 1010))]
def f77.H0_e0 (a:LLB):H:=[(1010,(.row 94 (.sl .bool) a))]
def f77.p0_e0' (L N:Nat) (k:LLB->Option R) (a:LLB):Option R:=
 k a
def f77.p0_e0 (L N:Nat) (k:LLB->Option R) (a:LLB):Option R:=
 f77.p0_e0' L N k a
def f77.b' (L N:Nat) (k:LLB->Option R) (a:Int->LLM->LLB->Option R) (b:Graph):Option R:=
 a (0:Int) b.moves ([]:LLB)
def f77.b (L N:Nat) (k:LLB->Option R) (a:Graph):Option R:=
 f77.b' L N k (fun c d e=>f77.l0 L N (fun f=>f77.p0_e0 L N k f) L c d e) a
def f77 (L N:Nat) (a:Graph):Option (LLB):=f77.b L N some a
def f77.ent (L N:Nat):=entDa [(.st 2)] (.one (.sl (.sl .bool))) fun d=>f77 L N d.1
noncomputable def E77 (L N:Nat):Env:={P:=Tryz.prog,ty:=tyOf,Φ:=(Φ43 L N),inl:=inlT,live:=lives,liveX:=livesX,L:=L,dp:=none,prom:=promT,heal:=healT,ren:=renT}
noncomputable def f77.c0:Code:=loopAt 0 (codeOf Tryz.f77)
noncomputable def f77.c1:Code:=loopAt 2 f77.c0
noncomputable def f77.c2:Code:=loopAt 4 f77.c1
def f77.X2_e4 (κ:KX R):=fun a b c d e f=>κ (.exit 4) (f77.T2_e4 a b c d e f) (f77.H2_e4 a b c d e f)
def f77.R2 (rec:KT R):=fun a b c d e f g h=>rec (f77.T2 a b c d e f g h) (f77.H2 a b c d e f g h)
theorem f77.s2_eq (L N:Nat) (κ:KX R) (rec:KT R) (a b:Int) (c:LM) (d:Int) (e:LLM) (f:LLB) (g:LB) (h:LI):
  evRd (E77 L N) (evCallI (E77 L N) 0 1000) 1000 77 84 4 f77.c2 κ rec (f77.T2 a b c d e f g h) (f77.H2 a b c d e f g h)
  =f77.s2 L N (f77.X2_e4 κ) (f77.R2 rec) a b c d e f g h:=by kernel_rfl
theorem f77.l2_eq (L N:Nat) (κ:KX R):∀(n:Nat) (a b:Int) (c:LM) (d:Int) (e:LLM) (f:LLB) (g:LB) (h:LI),
  evLp (E77 L N) (evCallI (E77 L N) 0 1000) 1000 77 84 4 f77.c2 κ n (f77.T2 a b c d e f g h) (f77.H2 a b c d e f g h)
  =f77.l2 L N (f77.X2_e4 κ) n a b c d e f g h:=by
 intro n
 induction n with
 |zero=>intros;rfl
 |succ n ih=>
  intro a b c d e f g h
  rw [evLp_succ,f77.s2_eq]
  delta f77.R2
  simp only [ih]
  rfl
def f77.X1_e2 (κ:KX R):=fun a b c d=>κ (.exit 2) (f77.T1_e2 a b c d) (f77.H1_e2 a b c d)
def f77.R1 (rec:KT R):=fun a b c d e f=>rec (f77.T1 a b c d e f) (f77.H1 a b c d e f)
theorem f77.p2_e4_eq (L N:Nat) (κ:KX R) (rec:KT R) (a b:Int) (c:LLM) (d:LLB) (e:LB) (f:LI):
  (contAt (E77 L N) (evCallI (E77 L N) 0 1000) 1000 77 84 4 f77.c1 (rdK (E77 L N) 1000 77 84 2 κ rec)) (.exit 4) (f77.T2_e4 a b c d e f) (f77.H2_e4 a b c d e f)
  =f77.p2_e4 L N (f77.X1_e2 κ) (f77.R1 rec) a b c d e f:=by kernel_rfl
theorem f77.s1_eq (L N:Nat) (κ:KX R) (rec:KT R) (a c:Int) (d:LLM) (e:LLB) (f:LB) (g:LI):
  evRd (E77 L N) (evCallI (E77 L N) 0 1000) 1000 77 84 2 f77.c1 κ rec (f77.T1 a c d e f g) (f77.H1 a c d e f g)
  =f77.s1 L N (f77.X1_e2 κ) (f77.R1 rec) a c d e f g:=by
 refine Eq.trans (b:=f77.s1' L N (f77.X1_e2 κ) (f77.R1 rec) (fun h i j k l m n o=>evLp (E77 L N) (evCallI (E77 L N) 0 1000) 1000 77 84 4 f77.c2 (contAt (E77 L N) (evCallI (E77 L N) 0 1000) 1000 77 84 4 f77.c1 (rdK (E77 L N) 1000 77 84 2 κ rec)) L (f77.T2 h i j k l m n o) (f77.H2 h i j k l m n o)) a c d e f g) (by kernel_rfl) ?_
 unfold f77.s1
 simp only [f77.l2_eq]
 delta f77.X2_e4
 simp only [f77.p2_e4_eq]
theorem f77.l1_eq (L N:Nat) (κ:KX R):∀(n:Nat) (a b:Int) (c:LLM) (d:LLB) (e:LB) (f:LI),
  evLp (E77 L N) (evCallI (E77 L N) 0 1000) 1000 77 84 2 f77.c1 κ n (f77.T1 a b c d e f) (f77.H1 a b c d e f)
  =f77.l1 L N (f77.X1_e2 κ) n a b c d e f:=by
 intro n
 induction n with
 |zero=>intros;rfl
 |succ n ih=>
  intro a b c d e f
  rw [evLp_succ,f77.s1_eq]
  delta f77.R1
  simp only [ih]
  rfl
def f77.X0_e0 (κ:KX R):=fun a=>κ (.exit 0) (f77.T0_e0 a) (f77.H0_e0 a)
def f77.R0 (rec:KT R):=fun a b c=>rec (f77.T0 a b c) (f77.H0 a b c)
theorem f77.p1_e2_eq (L N:Nat) (κ:KX R) (rec:KT R) (a:Int) (b:LLM) (c:LLB) (d:LB):
  (contAt (E77 L N) (evCallI (E77 L N) 0 1000) 1000 77 84 2 f77.c0 (rdK (E77 L N) 1000 77 84 0 κ rec)) (.exit 2) (f77.T1_e2 a b c d) (f77.H1_e2 a b c d)
  =f77.p1_e2 L N (f77.X0_e0 κ) (f77.R0 rec) a b c d:=by kernel_rfl
theorem f77.s0_eq (L N:Nat) (κ:KX R) (rec:KT R) (a:Int) (c:LLM) (d:LLB):
  evRd (E77 L N) (evCallI (E77 L N) 0 1000) 1000 77 84 0 f77.c0 κ rec (f77.T0 a c d) (f77.H0 a c d)
  =f77.s0 L N (f77.X0_e0 κ) (f77.R0 rec) a c d:=by
 refine Eq.trans (b:=f77.s0' L N (f77.X0_e0 κ) (f77.R0 rec) (fun e f g h i j=>evLp (E77 L N) (evCallI (E77 L N) 0 1000) 1000 77 84 2 f77.c1 (contAt (E77 L N) (evCallI (E77 L N) 0 1000) 1000 77 84 2 f77.c0 (rdK (E77 L N) 1000 77 84 0 κ rec)) L (f77.T1 e f g h i j) (f77.H1 e f g h i j)) a c d) (by kernel_rfl) ?_
 unfold f77.s0
 simp only [f77.l1_eq]
 delta f77.X1_e2
 simp only [f77.p1_e2_eq]
theorem f77.l0_eq (L N:Nat) (κ:KX R):∀(n:Nat) (a:Int) (b:LLM) (c:LLB),
  evLp (E77 L N) (evCallI (E77 L N) 0 1000) 1000 77 84 0 f77.c0 κ n (f77.T0 a b c) (f77.H0 a b c)
  =f77.l0 L N (f77.X0_e0 κ) n a b c:=by
 intro n
 induction n with
 |zero=>intros;rfl
 |succ n ih=>
  intro a b c
  rw [evLp_succ,f77.s0_eq]
  delta f77.R0
  simp only [ih]
  rfl
theorem f77.p0_e0_eq (L N:Nat) (κ:AV->Option R) (a:LLB):
  (contAt (E77 L N) (evCallI (E77 L N) 0 1000) 1000 77 84 0 (codeOf Tryz.f77) (finK (E77 L N) 1000 Tryz.f77 (finC (.one (.sl (.sl .bool))) κ))) (.exit 0) (f77.T0_e0 a) (f77.H0_e0 a)
  =f77.p0_e0 L N (fun a0=>κ (.tv (.sl (.sl .bool)) a0)) a:=by kernel_rfl
theorem f77.b_eq (L N:Nat) (κ:AV->Option R) (a:Graph):
  evBody (E77 L N) (evCallI (E77 L N) 0 1000) 1000 77 Tryz.f77 [(.tv (.st 2) a)] [] [] (finC (.one (.sl (.sl .bool))) κ)
  =f77.b L N (fun a0=>κ (.tv (.sl (.sl .bool)) a0)) a:=by
 refine Eq.trans (b:=f77.b' L N (fun a0=>κ (.tv (.sl (.sl .bool)) a0)) (fun c d e=>evLp (E77 L N) (evCallI (E77 L N) 0 1000) 1000 77 84 0 f77.c0 (contAt (E77 L N) (evCallI (E77 L N) 0 1000) 1000 77 84 0 (codeOf Tryz.f77) (finK (E77 L N) 1000 Tryz.f77 (finC (.one (.sl (.sl .bool))) κ))) L (f77.T0 c d e) (f77.H0 c d e)) a) (by kernel_rfl) ?_
 unfold f77.b
 simp only [f77.l0_eq]
 delta f77.X0_e0
 simp only [f77.p0_e0_eq]
theorem f77.ok (L N:Nat) (hΦ:TellsOk Tryz.prog ((Φ43 L N))):EntOk Tryz.prog 77 (f77.ent L N):=entDa_ok (E:=(E77 L N)) (dep:=1000) (f:=Tryz.f77) (sound_of hΦ) okP (callI_sound (sound_of hΦ) okP 0 1000) rfl fun d _ hy=>(f77.b_eq L N (unR (.one (.sl (.sl .bool)))) d.1).trans (Eq.trans (b:=f77.b L N some d.1) (by kernel_rfl) hy)
def Φ77 (L N:Nat):Tells:=(addT (Φ43 L N) 77 (f77.ent L N))
theorem Φ77_ok (L N:Nat):TellsOk Tryz.prog (Φ77 L N):=addT_ok (Φ43_ok L N) (f77.ok L N (Φ43_ok L N))
def f45.s3' (L N:Nat) (k3_e6:Bool->LLB->Int->Int->Int->LLM->LM->LLM->Option R) (rec3:Bool->LLB->Int->Int->Int->Int->LLM->Int->Int->LM->LLM->Option R) (g:Bool) (b:LLB) (h i:Int) (j a:Int) (d:LLM) (e c:Int) (f:LM) (k:LLM):Option R:=
 bif (decide (a<(d.length:Int))) then
  bif (decide (0≤c)&&decide (c<(b.length:Int))) then
   bif (decide (0≤a)&&decide (a<((listAt b [] c.toNat).length:Int))) then
    bif (listAt (listAt b [] c.toNat) false a.toNat) then
     bif (decide (f.length+([(Move.mk e a)]:LM).length≤lim)) then
      rec3 g b h i j (wi (a+(1:Int))) d e c (f++([(Move.mk e a)]:LM)) k
     else none
    else rec3 g b h i j (wi (a+(1:Int))) d e c f k
   else none
  else none
 else k3_e6 g b h i j d f k
def f45.s3 (L N:Nat) (k3_e6:Bool->LLB->Int->Int->Int->LLM->LM->LLM->Option R) (rec3:Bool->LLB->Int->Int->Int->Int->LLM->Int->Int->LM->LLM->Option R) (a:Bool) (b:LLB) (c d:Int) (e f:Int) (g:LLM) (h i:Int) (j:LM) (k:LLM):Option R:=
 f45.s3' L N k3_e6 rec3 a b c d e f g h i j k
def f45.l3 (L N:Nat) (k3_e6:Bool->LLB->Int->Int->Int->LLM->LM->LLM->Option R):Nat->Bool->LLB->Int->Int->Int->Int->LLM->Int->Int->LM->LLM->Option R
 |0,_,_,_,_,_,_,_,_,_,_,_=>none
 |n+1,a,b,c,d,e,f,g,h,i,j,k=>f45.s3 L N k3_e6 (f45.l3 L N k3_e6 n) a b c d e f g h i j k
def f45.T3 (a:Bool) (b:LLB) (c d:Int) (e f:Int) (g:LLM) (h i:Int) (j:LM) (k:LLM):T:=mkT 94 [(1,(.tv .bool a)),(2,(.ptr 1002 0)),(4,(.ptr 1004 0)),(5,(.tv (.sl (.sl .bool)) b)),(6,(.ptr 1006 0)),(7,(.tv i64 c)),(8,(.row 1023)),(9,(.tv i64 d)),(10,(.tv i64 e)),(11,(.ptr 1011 0)),(12,(.tv i64 f))]
def f45.H3 (f:Bool) (g:LLB) (h i:Int) (j k:Int) (a:LLM) (b c:Int) (d:LM) (e:LLM):H:=[(1002,(.box [(.tv (.sl (.sl (.st 0))) a)])),(1004,(.box [.nil])),(1006,(.box [(.row 1900)])),(1011,(.box [(.tv i64 b),(.tv i64 c)])),(1023,(.row 63 (.st 0) d)),(1900,(.row 61 (.sl (.st 0)) e))]
def f45.T3_e6 (a:Bool) (b:LLB) (c d e:Int) (f:LLM) (g:LM) (h:LLM):T:=mkT 94 [(1,(.tv .bool a)),(2,(.ptr 1002 0)),(4,(.ptr 1004 0)),(5,(.tv (.sl (.sl .bool)) b)),(6,(.ptr 1006 0)),(7,(.tv i64 c)),(8,(.row 1023)),(9,(.tv i64 d)),(10,(.tv i64 e))]
def f45.H3_e6 (d:Bool) (e:LLB) (f g h:Int) (a:LLM) (b:LM) (c:LLM):H:=[(1002,(.box [(.tv (.sl (.sl (.st 0))) a)])),(1004,(.box [.nil])),(1006,(.box [(.row 1900)])),(1023,(.row 63 (.st 0) b)),(1900,(.row 61 (.sl (.st 0)) c))]
def f45.p3_e6' (L N:Nat) (k2_e4:Bool->LLB->Int->Int->LLM->LM->LLM->Option R) (rec2:Bool->LLB->Int->Int->Int->LLM->LM->LLM->Option R) (a:Bool) (b:LLB) (c d e:Int) (f:LLM) (g:LM) (h:LLM):Option R:=
 rec2 a b c d (wi (e+(1:Int))) f g h
def f45.p3_e6 (L N:Nat) (k2_e4:Bool->LLB->Int->Int->LLM->LM->LLM->Option R) (rec2:Bool->LLB->Int->Int->Int->LLM->LM->LLM->Option R) (a:Bool) (b:LLB) (c d e:Int) (f:LLM) (g:LM) (h:LLM):Option R:=
 f45.p3_e6' L N k2_e4 rec2 a b c d e f g h
def f45.s2' (L N:Nat) (k2_e4:Bool->LLB->Int->Int->LLM->LM->LLM->Option R) (rec2:Bool->LLB->Int->Int->Int->LLM->LM->LLM->Option R) (i:Bool->LLB->Int->Int->Int->Int->LLM->Int->Int->LM->LLM->Option R) (d:Bool) (e:LLB) (f a c:Int) (b:LLM) (g:LM) (h:LLM):Option R:=
 bif (decide (0≤a)&&decide (a<(b.length:Int))) then
  bif (decide (c<((listAt b [] a.toNat).length:Int))) then
   bif (decide (0≤a)&&decide (a<(b.length:Int))) then
    bif (decide (0≤c)&&decide (c<((listAt b [] a.toNat).length:Int))) then
     i d e f a c (0:Int) b ((listAt (listAt b [] a.toNat) (Ty.dflt (.st 0)) c.toNat).act) ((listAt (listAt b [] a.toNat) (Ty.dflt (.st 0)) c.toNat).to) g h
    else none
   else none
  else k2_e4 d e f a b g h
 else none
def f45.s2 (L N:Nat) (k2_e4:Bool->LLB->Int->Int->LLM->LM->LLM->Option R) (rec2:Bool->LLB->Int->Int->Int->LLM->LM->LLM->Option R) (a:Bool) (b:LLB) (c d e:Int) (f:LLM) (g:LM) (h:LLM):Option R:=
 f45.s2' L N k2_e4 rec2 (fun i j k l m n o p q r s=>f45.l3 L N (fun t u v w x y z A=>f45.p3_e6 L N k2_e4 rec2 t u v w x y z A) L i j k l m n o p q r s) a b c d e f g h
def f45.l2 (L N:Nat) (k2_e4:Bool->LLB->Int->Int->LLM->LM->LLM->Option R):Nat->Bool->LLB->Int->Int->Int->LLM->LM->LLM->Option R
 |0,_,_,_,_,_,_,_,_=>none
 |n+1,a,b,c,d,e,f,g,h=>f45.s2 L N k2_e4 (f45.l2 L N k2_e4 n) a b c d e f g h
def f45.T2 (a:Bool) (b:LLB) (c d e:Int) (f:LLM) (g:LM) (h:LLM):T:=mkT 94 [(1,(.tv .bool a)),(2,(.ptr 1002 0)),(4,(.ptr 1004 0)),(5,(.tv (.sl (.sl .bool)) b)),(6,(.ptr 1006 0)),(7,(.tv i64 c)),(8,(.row 1023)),(9,(.tv i64 d)),(10,(.tv i64 e))]
def f45.H2 (d:Bool) (e:LLB) (f g h:Int) (a:LLM) (b:LM) (c:LLM):H:=[(1002,(.box [(.tv (.sl (.sl (.st 0))) a)])),(1004,(.box [.nil])),(1006,(.box [(.row 1900)])),(1023,(.row 63 (.st 0) b)),(1900,(.row 61 (.sl (.st 0)) c))]
def f45.T2_e4 (a:Bool) (b:LLB) (c d:Int) (e:LLM) (f:LM) (g:LLM):T:=mkT 94 [(1,(.tv .bool a)),(2,(.ptr 1002 0)),(4,(.ptr 1004 0)),(5,(.tv (.sl (.sl .bool)) b)),(6,(.ptr 1006 0)),(7,(.tv i64 c)),(8,(.row 1023)),(9,(.tv i64 d))]
def f45.H2_e4 (d:Bool) (e:LLB) (f g:Int) (a:LLM) (b:LM) (c:LLM):H:=[(1002,(.box [(.tv (.sl (.sl (.st 0))) a)])),(1004,(.box [.nil])),(1006,(.box [(.row 1900)])),(1023,(.row 63 (.st 0) b)),(1900,(.row 61 (.sl (.st 0)) c))]
def f45.p2_e4' (L N:Nat) (k1_e2:Bool->LLB->Int->LLM->LM->LLM->Option R) (rec1:Bool->LLB->Int->Int->LLM->LM->LLM->Option R) (a:Bool) (b:LLB) (c d:Int) (e:LLM) (f:LM) (g:LLM):Option R:=
 rec1 a b c (wi (d+(1:Int))) e f g
def f45.p2_e4 (L N:Nat) (k1_e2:Bool->LLB->Int->LLM->LM->LLM->Option R) (rec1:Bool->LLB->Int->Int->LLM->LM->LLM->Option R) (a:Bool) (b:LLB) (c d:Int) (e:LLM) (f:LM) (g:LLM):Option R:=
 f45.p2_e4' L N k1_e2 rec1 a b c d e f g
def f45.j0' (L N:Nat) (k1_e2:Bool->LLB->Int->LLM->LM->LLM->Option R) (rec1:Bool->LLB->Int->Int->LLM->LM->LLM->Option R) (a:Bool->LLB->Int->Int->Int->LLM->LM->LLM->Option R) (b:Bool) (c:LLB) (d e:Int) (f:LLM) (g:LM) (h:LLM):Option R:=
 a b c d e (0:Int) f g h
def f45.s1' (L N:Nat) (k1_e2:Bool->LLB->Int->LLM->LM->LLM->Option R) (rec1:Bool->LLB->Int->Int->LLM->LM->LLM->Option R) (h:Bool->LLB->Int->Int->Int->LLM->LM->LLM->Option R) (d:Bool) (c:LLB) (b a:Int) (e:LLM) (f:LM) (g:LLM):Option R:=
 bif (decide (a<(e.length:Int))) then
  bif (decide (0≤b)&&decide (b<(c.length:Int))) then
   bif (decide (0≤a)&&decide (a<((listAt c [] b.toNat).length:Int))) then
    bif (!(listAt (listAt c [] b.toNat) false a.toNat)) then
     rec1 d c b (wi (a+(1:Int))) e f g
    else bif (!d) then
     bif (decide (f.length+([(Move.mk (0:Int) a)]:LM).length≤lim)) then
      f45.j0' L N k1_e2 rec1 h d c b a e (f++([(Move.mk (0:Int) a)]:LM)) g
     else none
    else f45.j0' L N k1_e2 rec1 h d c b a e f g
   else none
  else none
 else k1_e2 d c b e f g
def f45.s1 (L N:Nat) (k1_e2:Bool->LLB->Int->LLM->LM->LLM->Option R) (rec1:Bool->LLB->Int->Int->LLM->LM->LLM->Option R) (a:Bool) (b:LLB) (c d:Int) (e:LLM) (f:LM) (g:LLM):Option R:=
 f45.s1' L N k1_e2 rec1 (fun h i j k l m n o=>f45.l2 L N (fun p q r s t u v=>f45.p2_e4 L N k1_e2 rec1 p q r s t u v) L h i j k l m n o) a b c d e f g
def f45.l1 (L N:Nat) (k1_e2:Bool->LLB->Int->LLM->LM->LLM->Option R):Nat->Bool->LLB->Int->Int->LLM->LM->LLM->Option R
 |0,_,_,_,_,_,_,_=>none
 |n+1,a,b,c,d,e,f,g=>f45.s1 L N k1_e2 (f45.l1 L N k1_e2 n) a b c d e f g
def f45.T1 (a:Bool) (b:LLB) (c d:Int) (e:LLM) (f:LM) (g:LLM):T:=mkT 94 [(1,(.tv .bool a)),(2,(.ptr 1002 0)),(4,(.ptr 1004 0)),(5,(.tv (.sl (.sl .bool)) b)),(6,(.ptr 1006 0)),(7,(.tv i64 c)),(8,(.row 1023)),(9,(.tv i64 d))]
def f45.H1 (d:Bool) (e:LLB) (f g:Int) (a:LLM) (b:LM) (c:LLM):H:=[(1002,(.box [(.tv (.sl (.sl (.st 0))) a)])),(1004,(.box [.nil])),(1006,(.box [(.row 1900)])),(1023,(.row 63 (.st 0) b)),(1900,(.row 61 (.sl (.st 0)) c))]
def f45.T1_e2 (a:Bool) (b:LLB) (c:Int) (d:LLM) (e:LM) (f:LLM):T:=mkT 94 [(1,(.tv .bool a)),(2,(.ptr 1002 0)),(4,(.ptr 1004 0)),(5,(.tv (.sl (.sl .bool)) b)),(6,(.ptr 1006 0)),(7,(.tv i64 c)),(8,(.row 1023))]
def f45.H1_e2 (d:Bool) (e:LLB) (f:Int) (a:LLM) (b:LM) (c:LLM):H:=[(1002,(.box [(.tv (.sl (.sl (.st 0))) a)])),(1004,(.box [.nil])),(1006,(.box [(.row 1900)])),(1023,(.row 63 (.st 0) b)),(1900,(.row 61 (.sl (.st 0)) c))]
def f45.p1_e2' (L N:Nat) (k0_e0:LLM->Option R) (rec0:Bool->LLB->Int->LLM->LLM->Option R) (c:Bool) (d:LLB) (e:Int) (f:LLM) (g:LM) (a:LLM):Option R:=
 (f78 L N g).bind fun b=>
 bif (decide (a.length+([b]:LLM).length≤lim)) then
  rec0 c d (wi (e+(1:Int))) f (a++([b]:LLM))
 else none
def f45.p1_e2 (L N:Nat) (k0_e0:LLM->Option R) (rec0:Bool->LLB->Int->LLM->LLM->Option R) (a:Bool) (b:LLB) (c:Int) (d:LLM) (e:LM) (f:LLM):Option R:=
 f45.p1_e2' L N k0_e0 rec0 a b c d e f
def f45.s0' (L N:Nat) (k0_e0:LLM->Option R) (rec0:Bool->LLB->Int->LLM->LLM->Option R) (d:Bool->LLB->Int->Int->LLM->LM->LLM->Option R) (e:Bool) (f:LLB) (a:Int) (b c:LLM):Option R:=
 bif (decide (a<(b.length:Int))) then
  d e f a (0:Int) b ([]:LM) c
 else k0_e0 c
def f45.s0 (L N:Nat) (k0_e0:LLM->Option R) (rec0:Bool->LLB->Int->LLM->LLM->Option R) (a:Bool) (b:LLB) (c:Int) (d e:LLM):Option R:=
 f45.s0' L N k0_e0 rec0 (fun f g h i j k l=>f45.l1 L N (fun m n o p q r=>f45.p1_e2 L N k0_e0 rec0 m n o p q r) L f g h i j k l) a b c d e
def f45.l0 (L N:Nat) (k0_e0:LLM->Option R):Nat->Bool->LLB->Int->LLM->LLM->Option R
 |0,_,_,_,_,_=>none
 |n+1,a,b,c,d,e=>f45.s0 L N k0_e0 (f45.l0 L N k0_e0 n) a b c d e
def f45.T0 (a:Bool) (b:LLB) (c:Int) (d e:LLM):T:=mkT 94 [(1,(.tv .bool a)),(2,(.ptr 1002 0)),(4,(.ptr 1004 0)),(5,(.tv (.sl (.sl .bool)) b)),(6,(.ptr 1006 0)),(7,(.tv i64 c))]
def f45.H0 (c:Bool) (d:LLB) (e:Int) (a b:LLM):H:=[(1002,(.box [(.tv (.sl (.sl (.st 0))) a)])),(1004,(.box [.nil])),(1006,(.box [(.row 1900)])),(1900,(.row 61 (.sl (.st 0)) b))]
def f45.T0_e0 (a:LLM):T:=mkT 94 [(4,(.ptr 1004 0)),(6,(.ptr 1006 0))]
def f45.H0_e0 (a:LLM):H:=[(1004,(.box [.nil])),(1006,(.box [(.row 1900)])),(1900,(.row 61 (.sl (.st 0)) a))]
def f45.p0_e0' (L N:Nat) (k:Graph->Option R) (a:LLM):Option R:=
 k (Graph.mk a)
def f45.p0_e0 (L N:Nat) (k:Graph->Option R) (a:LLM):Option R:=
 f45.p0_e0' L N k a
def f45.b' (L N:Nat) (k:Graph->Option R) (b:Bool->LLB->Int->LLM->LLM->Option R) (a:Graph) (c:Bool):Option R:=
 (f77 L N (Graph.mk a.moves)).bind fun d=>
 b c d (0:Int) a.moves ([]:LLM)
def f45.b (L N:Nat) (k:Graph->Option R) (a:Graph) (c:Bool):Option R:=
 f45.b' L N k (fun d e f g h=>f45.l0 L N (fun i=>f45.p0_e0 L N k i) L d e f g h) a c
def f45 (L N:Nat) (a:Graph) (c:Bool):Option (Graph):=f45.b L N some a c
def f45.ent (L N:Nat):=entDa [(.st 2),.bool] (.one (.st 2)) fun d=>f45 L N d.1 d.2.1
noncomputable def E45 (L N:Nat):Env:={P:=Tryz.prog,ty:=tyOf,Φ:=(Φ77 L N),inl:=inlT,live:=lives,liveX:=livesX,L:=L,dp:=none,prom:=promT,heal:=healT,ren:=renT}
noncomputable def f45.c0:Code:=loopAt 0 (codeOf Tryz.f45)
noncomputable def f45.c1:Code:=loopAt 2 f45.c0
noncomputable def f45.c2:Code:=loopAt 4 f45.c1
noncomputable def f45.c3:Code:=loopAt 6 f45.c2
def f45.X3_e6 (κ:KX R):=fun a b c d e f g h=>κ (.exit 6) (f45.T3_e6 a b c d e f g h) (f45.H3_e6 a b c d e f g h)
def f45.R3 (rec:KT R):=fun a b c d e f g h i j k=>rec (f45.T3 a b c d e f g h i j k) (f45.H3 a b c d e f g h i j k)
theorem f45.s3_eq (L N:Nat) (κ:KX R) (rec:KT R) (a:Bool) (b:LLB) (c d:Int) (e f:Int) (g:LLM) (h i:Int) (j:LM) (k:LLM):
  evRd (E45 L N) (evCallI (E45 L N) 0 1000) 1000 45 94 6 f45.c3 κ rec (f45.T3 a b c d e f g h i j k) (f45.H3 a b c d e f g h i j k)
  =f45.s3 L N (f45.X3_e6 κ) (f45.R3 rec) a b c d e f g h i j k:=by kernel_rfl
theorem f45.l3_eq (L N:Nat) (κ:KX R):∀(n:Nat) (a:Bool) (b:LLB) (c d:Int) (e f:Int) (g:LLM) (h i:Int) (j:LM) (k:LLM),
  evLp (E45 L N) (evCallI (E45 L N) 0 1000) 1000 45 94 6 f45.c3 κ n (f45.T3 a b c d e f g h i j k) (f45.H3 a b c d e f g h i j k)
  =f45.l3 L N (f45.X3_e6 κ) n a b c d e f g h i j k:=by
 intro n
 induction n with
 |zero=>intros;rfl
 |succ n ih=>
  intro a b c d e f g h i j k
  rw [evLp_succ,f45.s3_eq]
  delta f45.R3
  simp only [ih]
  rfl
def f45.X2_e4 (κ:KX R):=fun a b c d e f g=>κ (.exit 4) (f45.T2_e4 a b c d e f g) (f45.H2_e4 a b c d e f g)
def f45.R2 (rec:KT R):=fun a b c d e f g h=>rec (f45.T2 a b c d e f g h) (f45.H2 a b c d e f g h)
theorem f45.p3_e6_eq (L N:Nat) (κ:KX R) (rec:KT R) (a:Bool) (b:LLB) (c d e:Int) (f:LLM) (g:LM) (h:LLM):
  (contAt (E45 L N) (evCallI (E45 L N) 0 1000) 1000 45 94 6 f45.c2 (rdK (E45 L N) 1000 45 94 4 κ rec)) (.exit 6) (f45.T3_e6 a b c d e f g h) (f45.H3_e6 a b c d e f g h)
  =f45.p3_e6 L N (f45.X2_e4 κ) (f45.R2 rec) a b c d e f g h:=by kernel_rfl
theorem f45.s2_eq (L N:Nat) (κ:KX R) (rec:KT R) (a:Bool) (c:LLB) (d e f:Int) (g:LLM) (h:LM) (i:LLM):
  evRd (E45 L N) (evCallI (E45 L N) 0 1000) 1000 45 94 4 f45.c2 κ rec (f45.T2 a c d e f g h i) (f45.H2 a c d e f g h i)
  =f45.s2 L N (f45.X2_e4 κ) (f45.R2 rec) a c d e f g h i:=by
 refine Eq.trans (b:=f45.s2' L N (f45.X2_e4 κ) (f45.R2 rec) (fun j k l m n o p q r s t=>evLp (E45 L N) (evCallI (E45 L N) 0 1000) 1000 45 94 6 f45.c3 (contAt (E45 L N) (evCallI (E45 L N) 0 1000) 1000 45 94 6 f45.c2 (rdK (E45 L N) 1000 45 94 4 κ rec)) L (f45.T3 j k l m n o p q r s t) (f45.H3 j k l m n o p q r s t)) a c d e f g h i) (by kernel_rfl) ?_
 unfold f45.s2
 simp only [f45.l3_eq]
 delta f45.X3_e6
 simp only [f45.p3_e6_eq]
theorem f45.l2_eq (L N:Nat) (κ:KX R):∀(n:Nat) (a:Bool) (b:LLB) (c d e:Int) (f:LLM) (g:LM) (h:LLM),
  evLp (E45 L N) (evCallI (E45 L N) 0 1000) 1000 45 94 4 f45.c2 κ n (f45.T2 a b c d e f g h) (f45.H2 a b c d e f g h)
  =f45.l2 L N (f45.X2_e4 κ) n a b c d e f g h:=by
 intro n
 induction n with
 |zero=>intros;rfl
 |succ n ih=>
  intro a b c d e f g h
  rw [evLp_succ,f45.s2_eq]
  delta f45.R2
  simp only [ih]
  rfl
def f45.X1_e2 (κ:KX R):=fun a b c d e f=>κ (.exit 2) (f45.T1_e2 a b c d e f) (f45.H1_e2 a b c d e f)
def f45.R1 (rec:KT R):=fun a b c d e f g=>rec (f45.T1 a b c d e f g) (f45.H1 a b c d e f g)
theorem f45.p2_e4_eq (L N:Nat) (κ:KX R) (rec:KT R) (a:Bool) (b:LLB) (c d:Int) (e:LLM) (f:LM) (g:LLM):
  (contAt (E45 L N) (evCallI (E45 L N) 0 1000) 1000 45 94 4 f45.c1 (rdK (E45 L N) 1000 45 94 2 κ rec)) (.exit 4) (f45.T2_e4 a b c d e f g) (f45.H2_e4 a b c d e f g)
  =f45.p2_e4 L N (f45.X1_e2 κ) (f45.R1 rec) a b c d e f g:=by kernel_rfl
theorem f45.s1_eq (L N:Nat) (κ:KX R) (rec:KT R) (a:Bool) (c:LLB) (d e:Int) (f:LLM) (g:LM) (h:LLM):
  evRd (E45 L N) (evCallI (E45 L N) 0 1000) 1000 45 94 2 f45.c1 κ rec (f45.T1 a c d e f g h) (f45.H1 a c d e f g h)
  =f45.s1 L N (f45.X1_e2 κ) (f45.R1 rec) a c d e f g h:=by
 refine Eq.trans (b:=f45.s1' L N (f45.X1_e2 κ) (f45.R1 rec) (fun i j k l m n o p=>evLp (E45 L N) (evCallI (E45 L N) 0 1000) 1000 45 94 4 f45.c2 (contAt (E45 L N) (evCallI (E45 L N) 0 1000) 1000 45 94 4 f45.c1 (rdK (E45 L N) 1000 45 94 2 κ rec)) L (f45.T2 i j k l m n o p) (f45.H2 i j k l m n o p)) a c d e f g h) (by kernel_rfl) ?_
 unfold f45.s1
 simp only [f45.l2_eq]
 delta f45.X2_e4
 simp only [f45.p2_e4_eq]
theorem f45.l1_eq (L N:Nat) (κ:KX R):∀(n:Nat) (a:Bool) (b:LLB) (c d:Int) (e:LLM) (f:LM) (g:LLM),
  evLp (E45 L N) (evCallI (E45 L N) 0 1000) 1000 45 94 2 f45.c1 κ n (f45.T1 a b c d e f g) (f45.H1 a b c d e f g)
  =f45.l1 L N (f45.X1_e2 κ) n a b c d e f g:=by
 intro n
 induction n with
 |zero=>intros;rfl
 |succ n ih=>
  intro a b c d e f g
  rw [evLp_succ,f45.s1_eq]
  delta f45.R1
  simp only [ih]
  rfl
def f45.X0_e0 (κ:KX R):=fun a=>κ (.exit 0) (f45.T0_e0 a) (f45.H0_e0 a)
def f45.R0 (rec:KT R):=fun a b c d e=>rec (f45.T0 a b c d e) (f45.H0 a b c d e)
theorem f45.p1_e2_eq (L N:Nat) (κ:KX R) (rec:KT R) (a:Bool) (b:LLB) (c:Int) (d:LLM) (e:LM) (f:LLM):
  (contAt (E45 L N) (evCallI (E45 L N) 0 1000) 1000 45 94 2 f45.c0 (rdK (E45 L N) 1000 45 94 0 κ rec)) (.exit 2) (f45.T1_e2 a b c d e f) (f45.H1_e2 a b c d e f)
  =f45.p1_e2 L N (f45.X0_e0 κ) (f45.R0 rec) a b c d e f:=by kernel_rfl
theorem f45.s0_eq (L N:Nat) (κ:KX R) (rec:KT R) (a:Bool) (c:LLB) (d:Int) (e f:LLM):
  evRd (E45 L N) (evCallI (E45 L N) 0 1000) 1000 45 94 0 f45.c0 κ rec (f45.T0 a c d e f) (f45.H0 a c d e f)
  =f45.s0 L N (f45.X0_e0 κ) (f45.R0 rec) a c d e f:=by
 refine Eq.trans (b:=f45.s0' L N (f45.X0_e0 κ) (f45.R0 rec) (fun g h i j k l m=>evLp (E45 L N) (evCallI (E45 L N) 0 1000) 1000 45 94 2 f45.c1 (contAt (E45 L N) (evCallI (E45 L N) 0 1000) 1000 45 94 2 f45.c0 (rdK (E45 L N) 1000 45 94 0 κ rec)) L (f45.T1 g h i j k l m) (f45.H1 g h i j k l m)) a c d e f) (by kernel_rfl) ?_
 unfold f45.s0
 simp only [f45.l1_eq]
 delta f45.X1_e2
 simp only [f45.p1_e2_eq]
theorem f45.l0_eq (L N:Nat) (κ:KX R):∀(n:Nat) (a:Bool) (b:LLB) (c:Int) (d e:LLM),
  evLp (E45 L N) (evCallI (E45 L N) 0 1000) 1000 45 94 0 f45.c0 κ n (f45.T0 a b c d e) (f45.H0 a b c d e)
  =f45.l0 L N (f45.X0_e0 κ) n a b c d e:=by
 intro n
 induction n with
 |zero=>intros;rfl
 |succ n ih=>
  intro a b c d e
  rw [evLp_succ,f45.s0_eq]
  delta f45.R0
  simp only [ih]
  rfl
theorem f45.p0_e0_eq (L N:Nat) (κ:AV->Option R) (a:LLM):
  (contAt (E45 L N) (evCallI (E45 L N) 0 1000) 1000 45 94 0 (codeOf Tryz.f45) (finK (E45 L N) 1000 Tryz.f45 (finC (.one (.st 2)) κ))) (.exit 0) (f45.T0_e0 a) (f45.H0_e0 a)
  =f45.p0_e0 L N (fun a0=>κ (.tv (.st 2) a0)) a:=by kernel_rfl
theorem f45.b_eq (L N:Nat) (κ:AV->Option R) (a:Graph) (c:Bool):
  evBody (E45 L N) (evCallI (E45 L N) 0 1000) 1000 45 Tryz.f45 [(.tv (.st 2) a),(.tv .bool c)] [] [] (finC (.one (.st 2)) κ)
  =f45.b L N (fun a0=>κ (.tv (.st 2) a0)) a c:=by
 refine Eq.trans (b:=f45.b' L N (fun a0=>κ (.tv (.st 2) a0)) (fun d e f g h=>evLp (E45 L N) (evCallI (E45 L N) 0 1000) 1000 45 94 0 f45.c0 (contAt (E45 L N) (evCallI (E45 L N) 0 1000) 1000 45 94 0 (codeOf Tryz.f45) (finK (E45 L N) 1000 Tryz.f45 (finC (.one (.st 2)) κ))) L (f45.T0 d e f g h) (f45.H0 d e f g h)) a c) (by kernel_rfl) ?_
 unfold f45.b
 simp only [f45.l0_eq]
 delta f45.X0_e0
 simp only [f45.p0_e0_eq]
theorem f45.ok (L N:Nat) (hΦ:TellsOk Tryz.prog ((Φ77 L N))):EntOk Tryz.prog 45 (f45.ent L N):=entDa_ok (E:=(E45 L N)) (dep:=1000) (f:=Tryz.f45) (sound_of hΦ) okP (callI_sound (sound_of hΦ) okP 0 1000) rfl fun d _ hy=>(f45.b_eq L N (unR (.one (.st 2))) d.1 d.2.1).trans (Eq.trans (b:=f45.b L N some d.1 d.2.1) (by kernel_rfl) hy)
def Φ45 (L N:Nat):Tells:=(addT (Φ77 L N) 45 (f45.ent L N))
theorem Φ45_ok (L N:Nat):TellsOk Tryz.prog (Φ45 L N):=addT_ok (Φ77_ok L N) (f45.ok L N (Φ77_ok L N))
def f79.s0' (L N:Nat) (k0_e0:Option R) (k0_r:Bool->Option R) (rec0:Int->Int->LI->Int->Int->LLM->Option R) (a e:Int) (d:LI) (f c:Int) (b:LLM):Option R:=
 bif (decide (0≤a)&&decide (a<(b.length:Int))) then
  bif (decide (c<((listAt b [] a.toNat).length:Int))) then
   bif (decide (0≤a)&&decide (a<(b.length:Int))) then
    bif (decide (0≤c)&&decide (c<((listAt b [] a.toNat).length:Int))) then
     bif ((listAt (listAt b [] a.toNat) (Ty.dflt (.st 0)) c.toNat).act==e) then
      bif (decide (0≤(listAt (listAt b [] a.toNat) (Ty.dflt (.st 0)) c.toNat).to)&&decide ((listAt (listAt b [] a.toNat) (Ty.dflt (.st 0)) c.toNat).to<(d.length:Int))) then
       bif ((listAt d (0:Int) ((listAt (listAt b [] a.toNat) (Ty.dflt (.st 0)) c.toNat).to).toNat)==f) then
        k0_r true
       else rec0 a e d f (wi (c+(1:Int))) b
      else none
     else rec0 a e d f (wi (c+(1:Int))) b
    else none
   else none
  else k0_e0
 else none
def f79.s0 (L N:Nat) (k0_e0:Option R) (k0_r:Bool->Option R) (rec0:Int->Int->LI->Int->Int->LLM->Option R) (a b:Int) (c:LI) (d e:Int) (f:LLM):Option R:=
 f79.s0' L N k0_e0 k0_r rec0 a b c d e f
def f79.l0 (L N:Nat) (k0_e0:Option R) (k0_r:Bool->Option R):Nat->Int->Int->LI->Int->Int->LLM->Option R
 |0,_,_,_,_,_,_=>none
 |n+1,a,b,c,d,e,f=>f79.s0 L N k0_e0 k0_r (f79.l0 L N k0_e0 k0_r n) a b c d e f
def f79.T0 (a b:Int) (c:LI) (d e:Int) (f:LLM):T:=mkT 44 [(1,(.tv i64 a)),(2,(.tv i64 b)),(3,(.tv (.sl i64) c)),(4,(.tv i64 d)),(5,(.ptr 1005 0)),(11,(.tv i64 e))]
def f79.H0 (b c:Int) (d:LI) (e f:Int) (a:LLM):H:=[(1005,(.box [(.tv (.sl (.sl (.st 0))) a)]))]
def f79.T0_e0:T:=mkT 44 []
def f79.H0_e0:H:=[]
def f79.T0_r (a:Bool):T:=mkT 44 [(10,(.tv .bool a))]
def f79.H0_r (a:Bool):H:=[]
def f79.p0_e0' (L N:Nat) (k:Bool->Option R):Option R:=
 k false
def f79.p0_e0 (L N:Nat) (k:Bool->Option R):Option R:=
 f79.p0_e0' L N k
def f79.p0_r' (L N:Nat) (k:Bool->Option R) (a:Bool):Option R:=
 k a
def f79.p0_r (L N:Nat) (k:Bool->Option R) (a:Bool):Option R:=
 f79.p0_r' L N k a
def f79.b' (L N:Nat) (k:Bool->Option R) (a:Int->Int->LI->Int->Int->LLM->Option R) (b:Graph) (c d:Int) (e:LI) (f:Int):Option R:=
 a c d e f (0:Int) b.moves
def f79.b (L N:Nat) (k:Bool->Option R) (a:Graph) (c d:Int) (e:LI) (f:Int):Option R:=
 f79.b' L N k (fun g h i j l m=>f79.l0 L N (f79.p0_e0 L N k) (fun n=>f79.p0_r L N k n) L g h i j l m) a c d e f
def f79 (L N:Nat) (a:Graph) (c d:Int) (e:LI) (f:Int):Option (Bool):=f79.b L N some a c d e f
def f79.ent (L N:Nat):=entRo [(.st 2),i64,i64,(.sl i64),i64] (.one .bool) fun d=>f79 L N d.1 d.2.1 d.2.2.1 d.2.2.2.1 d.2.2.2.2.1
noncomputable def E79 (L N:Nat):Env:={P:=Tryz.prog,ty:=tyOf,Φ:=(Φ45 L N),inl:=inlT,live:=lives,liveX:=livesX,L:=L,dp:=none,prom:=promT,heal:=healT,ren:=renT}
noncomputable def f79.c0:Code:=loopAt 0 (codeOf Tryz.f79)
def f79.X0_e0 (κ:KX R):=κ (.exit 0) f79.T0_e0 f79.H0_e0
def f79.X0_r (κ:KX R):=fun a=>κ .ret (f79.T0_r a) (f79.H0_r a)
def f79.R0 (rec:KT R):=fun a b c d e f=>rec (f79.T0 a b c d e f) (f79.H0 a b c d e f)
theorem f79.s0_eq (L N:Nat) (κ:KX R) (rec:KT R) (a b:Int) (c:LI) (d e:Int) (f:LLM):
  evRd (E79 L N) (evCallI (E79 L N) 0 1000) 1000 79 44 0 f79.c0 κ rec (f79.T0 a b c d e f) (f79.H0 a b c d e f)
  =f79.s0 L N (f79.X0_e0 κ) (f79.X0_r κ) (f79.R0 rec) a b c d e f:=by kernel_rfl
theorem f79.l0_eq (L N:Nat) (κ:KX R):∀(n:Nat) (a b:Int) (c:LI) (d e:Int) (f:LLM),
  evLp (E79 L N) (evCallI (E79 L N) 0 1000) 1000 79 44 0 f79.c0 κ n (f79.T0 a b c d e f) (f79.H0 a b c d e f)
  =f79.l0 L N (f79.X0_e0 κ) (f79.X0_r κ) n a b c d e f:=by
 intro n
 induction n with
 |zero=>intros;rfl
 |succ n ih=>
  intro a b c d e f
  rw [evLp_succ,f79.s0_eq]
  delta f79.R0
  simp only [ih]
  rfl
theorem f79.p0_e0_eq (L N:Nat) (κ:AV->Option R):
  (contAt (E79 L N) (evCallI (E79 L N) 0 1000) 1000 79 44 0 (codeOf Tryz.f79) (finK (E79 L N) 1000 Tryz.f79 (finC (.one .bool) κ))) (.exit 0) f79.T0_e0 f79.H0_e0
  =f79.p0_e0 L N (fun a0=>κ (.tv .bool a0)):=by kernel_rfl
theorem f79.p0_r_eq (L N:Nat) (κ:AV->Option R) (a:Bool):
  (contAt (E79 L N) (evCallI (E79 L N) 0 1000) 1000 79 44 0 (codeOf Tryz.f79) (finK (E79 L N) 1000 Tryz.f79 (finC (.one .bool) κ))) .ret (f79.T0_r a) (f79.H0_r a)
  =f79.p0_r L N (fun a0=>κ (.tv .bool a0)) a:=by kernel_rfl
theorem f79.b_eq (L N:Nat) (κ:AV->Option R) (a:Graph) (c d:Int) (e:LI) (f:Int):
  evBody (E79 L N) (evCallI (E79 L N) 0 1000) 1000 79 Tryz.f79 [(.tv (.st 2) a),(.tv i64 c),(.tv i64 d),(.tv (.sl i64) e),(.tv i64 f)] [] [] (finC (.one .bool) κ)
  =f79.b L N (fun a0=>κ (.tv .bool a0)) a c d e f:=by
 refine Eq.trans (b:=f79.b' L N (fun a0=>κ (.tv .bool a0)) (fun g h i j k l=>evLp (E79 L N) (evCallI (E79 L N) 0 1000) 1000 79 44 0 f79.c0 (contAt (E79 L N) (evCallI (E79 L N) 0 1000) 1000 79 44 0 (codeOf Tryz.f79) (finK (E79 L N) 1000 Tryz.f79 (finC (.one .bool) κ))) L (f79.T0 g h i j k l) (f79.H0 g h i j k l)) a c d e f) (by kernel_rfl) ?_
 unfold f79.b
 simp only [f79.l0_eq]
 delta f79.X0_e0 f79.X0_r
 simp only [f79.p0_e0_eq,f79.p0_r_eq]
theorem f79.ok (L N:Nat) (hΦ:TellsOk Tryz.prog ((Φ45 L N))):EntOk Tryz.prog 79 (f79.ent L N):=entRo_ok (E:=(E79 L N)) (dep:=1000) (f:=Tryz.f79) (sound_of hΦ) okP (callI_sound (sound_of hΦ) okP 0 1000) rfl rfl fun d _ hy=>(f79.b_eq L N (unR (.one .bool)) d.1 d.2.1 d.2.2.1 d.2.2.2.1 d.2.2.2.2.1).trans (Eq.trans (b:=f79.b L N some d.1 d.2.1 d.2.2.1 d.2.2.2.1 d.2.2.2.2.1) (by kernel_rfl) hy)
def Φ79 (L N:Nat):Tells:=(addT (Φ45 L N) 79 (f79.ent L N))
theorem Φ79_ok (L N:Nat):TellsOk Tryz.prog (Φ79 L N):=addT_ok (Φ45_ok L N) (f79.ok L N (Φ45_ok L N))
def f191.s0' (L N:Nat) (k0_e0:Option R) (k0_r:Bool->Option R) (rec0:Int->Int->LI->Int->LLM->Option R) (a e:Int) (d:LI) (c:Int) (b:LLM):Option R:=
 bif (decide (0≤a)&&decide (a<(b.length:Int))) then
  bif (decide (c<((listAt b [] a.toNat).length:Int))) then
   bif (decide (0≤a)&&decide (a<(b.length:Int))) then
    bif (decide (0≤c)&&decide (c<((listAt b [] a.toNat).length:Int))) then
     bif (decide (0≤(listAt (listAt b [] a.toNat) (Ty.dflt (.st 0)) c.toNat).to)&&decide ((listAt (listAt b [] a.toNat) (Ty.dflt (.st 0)) c.toNat).to<(d.length:Int))) then
      (f79 L N (Graph.mk b) e ((listAt (listAt b [] a.toNat) (Ty.dflt (.st 0)) c.toNat).act) d (listAt d (0:Int) ((listAt (listAt b [] a.toNat) (Ty.dflt (.st 0)) c.toNat).to).toNat)).bind fun f=>
      bif (!f) then
       k0_r false
      else rec0 a e d (wi (c+(1:Int))) b
     else none
    else none
   else none
  else k0_e0
 else none
def f191.s0 (L N:Nat) (k0_e0:Option R) (k0_r:Bool->Option R) (rec0:Int->Int->LI->Int->LLM->Option R) (a b:Int) (c:LI) (d:Int) (e:LLM):Option R:=
 f191.s0' L N k0_e0 k0_r rec0 a b c d e
def f191.l0 (L N:Nat) (k0_e0:Option R) (k0_r:Bool->Option R):Nat->Int->Int->LI->Int->LLM->Option R
 |0,_,_,_,_,_=>none
 |n+1,a,b,c,d,e=>f191.s0 L N k0_e0 k0_r (f191.l0 L N k0_e0 k0_r n) a b c d e
def f191.T0 (a b:Int) (c:LI) (d:Int) (e:LLM):T:=mkT 41 [(1,(.tv i64 a)),(2,(.tv i64 b)),(3,(.tv (.sl i64) c)),(4,(.ptr 1004 0)),(9,(.tv i64 d))]
def f191.H0 (b c:Int) (d:LI) (e:Int) (a:LLM):H:=[(1004,(.box [(.tv (.sl (.sl (.st 0))) a)]))]
def f191.T0_e0:T:=mkT 41 []
def f191.H0_e0:H:=[]
def f191.T0_r (a:Bool):T:=mkT 41 [(8,(.tv .bool a))]
def f191.H0_r (a:Bool):H:=[]
def f191.p0_e0' (L N:Nat) (k:Bool->Option R):Option R:=
 k true
def f191.p0_e0 (L N:Nat) (k:Bool->Option R):Option R:=
 f191.p0_e0' L N k
def f191.p0_r' (L N:Nat) (k:Bool->Option R) (a:Bool):Option R:=
 k a
def f191.p0_r (L N:Nat) (k:Bool->Option R) (a:Bool):Option R:=
 f191.p0_r' L N k a
def f191.b' (L N:Nat) (k:Bool->Option R) (a:Int->Int->LI->Int->LLM->Option R) (b:Graph) (c d:Int) (e:LI):Option R:=
 a c d e (0:Int) b.moves
def f191.b (L N:Nat) (k:Bool->Option R) (a:Graph) (c d:Int) (e:LI):Option R:=
 f191.b' L N k (fun f g h i j=>f191.l0 L N (f191.p0_e0 L N k) (fun l=>f191.p0_r L N k l) L f g h i j) a c d e
def f191 (L N:Nat) (a:Graph) (c d:Int) (e:LI):Option (Bool):=f191.b L N some a c d e
def f191.ent (L N:Nat):=entRo [(.st 2),i64,i64,(.sl i64)] (.one .bool) fun d=>f191 L N d.1 d.2.1 d.2.2.1 d.2.2.2.1
noncomputable def E191 (L N:Nat):Env:={P:=Tryz.prog,ty:=tyOf,Φ:=(Φ79 L N),inl:=inlT,live:=lives,liveX:=livesX,L:=L,dp:=none,prom:=promT,heal:=healT,ren:=renT}
noncomputable def f191.c0:Code:=loopAt 0 (codeOf Tryz.f191)
def f191.X0_e0 (κ:KX R):=κ (.exit 0) f191.T0_e0 f191.H0_e0
def f191.X0_r (κ:KX R):=fun a=>κ .ret (f191.T0_r a) (f191.H0_r a)
def f191.R0 (rec:KT R):=fun a b c d e=>rec (f191.T0 a b c d e) (f191.H0 a b c d e)
theorem f191.s0_eq (L N:Nat) (κ:KX R) (rec:KT R) (a b:Int) (c:LI) (d:Int) (e:LLM):
  evRd (E191 L N) (evCallI (E191 L N) 0 1000) 1000 191 41 0 f191.c0 κ rec (f191.T0 a b c d e) (f191.H0 a b c d e)
  =f191.s0 L N (f191.X0_e0 κ) (f191.X0_r κ) (f191.R0 rec) a b c d e:=by kernel_rfl
theorem f191.l0_eq (L N:Nat) (κ:KX R):∀(n:Nat) (a b:Int) (c:LI) (d:Int) (e:LLM),
  evLp (E191 L N) (evCallI (E191 L N) 0 1000) 1000 191 41 0 f191.c0 κ n (f191.T0 a b c d e) (f191.H0 a b c d e)
  =f191.l0 L N (f191.X0_e0 κ) (f191.X0_r κ) n a b c d e:=by
 intro n
 induction n with
 |zero=>intros;rfl
 |succ n ih=>
  intro a b c d e
  rw [evLp_succ,f191.s0_eq]
  delta f191.R0
  simp only [ih]
  rfl
theorem f191.p0_e0_eq (L N:Nat) (κ:AV->Option R):
  (contAt (E191 L N) (evCallI (E191 L N) 0 1000) 1000 191 41 0 (codeOf Tryz.f191) (finK (E191 L N) 1000 Tryz.f191 (finC (.one .bool) κ))) (.exit 0) f191.T0_e0 f191.H0_e0
  =f191.p0_e0 L N (fun a0=>κ (.tv .bool a0)):=by kernel_rfl
theorem f191.p0_r_eq (L N:Nat) (κ:AV->Option R) (a:Bool):
  (contAt (E191 L N) (evCallI (E191 L N) 0 1000) 1000 191 41 0 (codeOf Tryz.f191) (finK (E191 L N) 1000 Tryz.f191 (finC (.one .bool) κ))) .ret (f191.T0_r a) (f191.H0_r a)
  =f191.p0_r L N (fun a0=>κ (.tv .bool a0)) a:=by kernel_rfl
theorem f191.b_eq (L N:Nat) (κ:AV->Option R) (a:Graph) (c d:Int) (e:LI):
  evBody (E191 L N) (evCallI (E191 L N) 0 1000) 1000 191 Tryz.f191 [(.tv (.st 2) a),(.tv i64 c),(.tv i64 d),(.tv (.sl i64) e)] [] [] (finC (.one .bool) κ)
  =f191.b L N (fun a0=>κ (.tv .bool a0)) a c d e:=by
 refine Eq.trans (b:=f191.b' L N (fun a0=>κ (.tv .bool a0)) (fun f g h i j=>evLp (E191 L N) (evCallI (E191 L N) 0 1000) 1000 191 41 0 f191.c0 (contAt (E191 L N) (evCallI (E191 L N) 0 1000) 1000 191 41 0 (codeOf Tryz.f191) (finK (E191 L N) 1000 Tryz.f191 (finC (.one .bool) κ))) L (f191.T0 f g h i j) (f191.H0 f g h i j)) a c d e) (by kernel_rfl) ?_
 unfold f191.b
 simp only [f191.l0_eq]
 delta f191.X0_e0 f191.X0_r
 simp only [f191.p0_e0_eq,f191.p0_r_eq]
theorem f191.ok (L N:Nat) (hΦ:TellsOk Tryz.prog ((Φ79 L N))):EntOk Tryz.prog 191 (f191.ent L N):=entRo_ok (E:=(E191 L N)) (dep:=1000) (f:=Tryz.f191) (sound_of hΦ) okP (callI_sound (sound_of hΦ) okP 0 1000) rfl rfl fun d _ hy=>(f191.b_eq L N (unR (.one .bool)) d.1 d.2.1 d.2.2.1 d.2.2.2.1).trans (Eq.trans (b:=f191.b L N some d.1 d.2.1 d.2.2.1 d.2.2.2.1) (by kernel_rfl) hy)
def Φ191 (L N:Nat):Tells:=(addT (Φ79 L N) 191 (f191.ent L N))
theorem Φ191_ok (L N:Nat):TellsOk Tryz.prog (Φ191 L N):=addT_ok (Φ79_ok L N) (f191.ok L N (Φ79_ok L N))
def f160.s1' (L N:Nat) (k1_e2:LI->Int->Int->LLM->LI->Option R) (rec1:LI->Int->Int->Int->LLM->LI->Option R) (a:LI) (c f b:Int) (d:LLM) (e:LI):Option R:=
 bif (decide (b≥(0:Int))) then
  bif (decide (0≤b)&&decide (b<(a.length:Int))) then
   bif (decide (0≤c)&&decide (c<(a.length:Int))) then
    bif ((listAt a (0:Int) b.toNat)==(listAt a (0:Int) c.toNat)) then
     (f191 L N (Graph.mk d) c b a).bind fun g=>
     bif g then
      (f191 L N (Graph.mk d) b c a).bind fun h=>
      bif h then
       rec1 a c b (wi (b-(1:Int))) d e
      else rec1 a c f (wi (b-(1:Int))) d e
     else rec1 a c f (wi (b-(1:Int))) d e
    else rec1 a c f (wi (b-(1:Int))) d e
   else none
  else none
 else k1_e2 a c f d e
def f160.s1 (L N:Nat) (k1_e2:LI->Int->Int->LLM->LI->Option R) (rec1:LI->Int->Int->Int->LLM->LI->Option R) (a:LI) (b c d:Int) (e:LLM) (f:LI):Option R:=
 f160.s1' L N k1_e2 rec1 a b c d e f
def f160.l1 (L N:Nat) (k1_e2:LI->Int->Int->LLM->LI->Option R):Nat->LI->Int->Int->Int->LLM->LI->Option R
 |0,_,_,_,_,_,_=>none
 |n+1,a,b,c,d,e,f=>f160.s1 L N k1_e2 (f160.l1 L N k1_e2 n) a b c d e f
def f160.T1 (a:LI) (b c d:Int) (e:LLM) (f:LI):T:=mkT 52 [(1,(.tv (.sl i64) a)),(2,(.ptr 1002 0)),(5,(.row 1009)),(6,(.tv i64 b)),(7,(.tv i64 c)),(8,(.tv i64 d))]
def f160.H1 (c:LI) (d e f:Int) (a:LLM) (b:LI):H:=[(1002,(.box [(.tv (.sl (.sl (.st 0))) a)])),(1009,(.row 3 i64 b))]
def f160.T1_e2 (a:LI) (b c:Int) (d:LLM) (e:LI):T:=mkT 52 [(1,(.tv (.sl i64) a)),(2,(.ptr 1002 0)),(5,(.row 1009)),(6,(.tv i64 b)),(7,(.tv i64 c))]
def f160.H1_e2 (c:LI) (d e:Int) (a:LLM) (b:LI):H:=[(1002,(.box [(.tv (.sl (.sl (.st 0))) a)])),(1009,(.row 3 i64 b))]
def f160.p1_e2' (L N:Nat) (k0_e0:LI->Option R) (rec0:LI->Int->LLM->LI->Option R) (c:LI) (d a:Int) (e:LLM) (b:LI):Option R:=
 bif (decide (b.length+([a]:LI).length≤lim)) then
  rec0 c (wi (d+(1:Int))) e (b++([a]:LI))
 else none
def f160.p1_e2 (L N:Nat) (k0_e0:LI->Option R) (rec0:LI->Int->LLM->LI->Option R) (a:LI) (b c:Int) (d:LLM) (e:LI):Option R:=
 f160.p1_e2' L N k0_e0 rec0 a b c d e
def f160.s0' (L N:Nat) (k0_e0:LI->Option R) (rec0:LI->Int->LLM->LI->Option R) (d:LI->Int->Int->Int->LLM->LI->Option R) (b:LI) (a:Int) (e:LLM) (c:LI):Option R:=
 bif (decide (a<(b.length:Int))) then
  d b a a (wi (a-(1:Int))) e c
 else k0_e0 c
def f160.s0 (L N:Nat) (k0_e0:LI->Option R) (rec0:LI->Int->LLM->LI->Option R) (a:LI) (b:Int) (c:LLM) (d:LI):Option R:=
 f160.s0' L N k0_e0 rec0 (fun e f g h i j=>f160.l1 L N (fun k l m n o=>f160.p1_e2 L N k0_e0 rec0 k l m n o) L e f g h i j) a b c d
def f160.l0 (L N:Nat) (k0_e0:LI->Option R):Nat->LI->Int->LLM->LI->Option R
 |0,_,_,_,_=>none
 |n+1,a,b,c,d=>f160.s0 L N k0_e0 (f160.l0 L N k0_e0 n) a b c d
def f160.T0 (a:LI) (b:Int) (c:LLM) (d:LI):T:=mkT 52 [(1,(.tv (.sl i64) a)),(2,(.ptr 1002 0)),(5,(.row 1009)),(6,(.tv i64 b))]
def f160.H0 (c:LI) (d:Int) (a:LLM) (b:LI):H:=[(1002,(.box [(.tv (.sl (.sl (.st 0))) a)])),(1009,(.row 3 i64 b))]
def f160.T0_e0 (a:LI):T:=mkT 52 [(5,(.row 1009))]
def f160.H0_e0 (a:LI):H:=[(1009,(.row 3 i64 a))]
def f160.p0_e0' (L N:Nat) (k:LI->Option R) (a:LI):Option R:=
 k a
def f160.p0_e0 (L N:Nat) (k:LI->Option R) (a:LI):Option R:=
 f160.p0_e0' L N k a
def f160.b' (L N:Nat) (k:LI->Option R) (a:LI->Int->LLM->LI->Option R) (b:Graph) (c:LI):Option R:=
 a c (0:Int) b.moves ([]:LI)
def f160.b (L N:Nat) (k:LI->Option R) (a:Graph) (c:LI):Option R:=
 f160.b' L N k (fun d e f g=>f160.l0 L N (fun h=>f160.p0_e0 L N k h) L d e f g) a c
def f160 (L N:Nat) (a:Graph) (c:LI):Option (LI):=f160.b L N some a c
def f160.ent (L N:Nat):=entDa [(.st 2),(.sl i64)] (.one (.sl i64)) fun d=>f160 L N d.1 d.2.1
noncomputable def E160 (L N:Nat):Env:={P:=Tryz.prog,ty:=tyOf,Φ:=(Φ191 L N),inl:=inlT,live:=lives,liveX:=livesX,L:=L,dp:=none,prom:=promT,heal:=healT,ren:=renT}
noncomputable def f160.c0:Code:=loopAt 0 (codeOf Tryz.f160)
noncomputable def f160.c1:Code:=loopAt 2 f160.c0
def f160.X1_e2 (κ:KX R):=fun a b c d e=>κ (.exit 2) (f160.T1_e2 a b c d e) (f160.H1_e2 a b c d e)
def f160.R1 (rec:KT R):=fun a b c d e f=>rec (f160.T1 a b c d e f) (f160.H1 a b c d e f)
theorem f160.s1_eq (L N:Nat) (κ:KX R) (rec:KT R) (a:LI) (b c d:Int) (e:LLM) (f:LI):
  evRd (E160 L N) (evCallI (E160 L N) 0 1000) 1000 160 52 2 f160.c1 κ rec (f160.T1 a b c d e f) (f160.H1 a b c d e f)
  =f160.s1 L N (f160.X1_e2 κ) (f160.R1 rec) a b c d e f:=by kernel_rfl
theorem f160.l1_eq (L N:Nat) (κ:KX R):∀(n:Nat) (a:LI) (b c d:Int) (e:LLM) (f:LI),
  evLp (E160 L N) (evCallI (E160 L N) 0 1000) 1000 160 52 2 f160.c1 κ n (f160.T1 a b c d e f) (f160.H1 a b c d e f)
  =f160.l1 L N (f160.X1_e2 κ) n a b c d e f:=by
 intro n
 induction n with
 |zero=>intros;rfl
 |succ n ih=>
  intro a b c d e f
  rw [evLp_succ,f160.s1_eq]
  delta f160.R1
  simp only [ih]
  rfl
def f160.X0_e0 (κ:KX R):=fun a=>κ (.exit 0) (f160.T0_e0 a) (f160.H0_e0 a)
def f160.R0 (rec:KT R):=fun a b c d=>rec (f160.T0 a b c d) (f160.H0 a b c d)
theorem f160.p1_e2_eq (L N:Nat) (κ:KX R) (rec:KT R) (a:LI) (b c:Int) (d:LLM) (e:LI):
  (contAt (E160 L N) (evCallI (E160 L N) 0 1000) 1000 160 52 2 f160.c0 (rdK (E160 L N) 1000 160 52 0 κ rec)) (.exit 2) (f160.T1_e2 a b c d e) (f160.H1_e2 a b c d e)
  =f160.p1_e2 L N (f160.X0_e0 κ) (f160.R0 rec) a b c d e:=by kernel_rfl
theorem f160.s0_eq (L N:Nat) (κ:KX R) (rec:KT R) (a:LI) (c:Int) (d:LLM) (e:LI):
  evRd (E160 L N) (evCallI (E160 L N) 0 1000) 1000 160 52 0 f160.c0 κ rec (f160.T0 a c d e) (f160.H0 a c d e)
  =f160.s0 L N (f160.X0_e0 κ) (f160.R0 rec) a c d e:=by
 refine Eq.trans (b:=f160.s0' L N (f160.X0_e0 κ) (f160.R0 rec) (fun f g h i j k=>evLp (E160 L N) (evCallI (E160 L N) 0 1000) 1000 160 52 2 f160.c1 (contAt (E160 L N) (evCallI (E160 L N) 0 1000) 1000 160 52 2 f160.c0 (rdK (E160 L N) 1000 160 52 0 κ rec)) L (f160.T1 f g h i j k) (f160.H1 f g h i j k)) a c d e) (by kernel_rfl) ?_
 unfold f160.s0
 simp only [f160.l1_eq]
 delta f160.X1_e2
 simp only [f160.p1_e2_eq]
theorem f160.l0_eq (L N:Nat) (κ:KX R):∀(n:Nat) (a:LI) (b:Int) (c:LLM) (d:LI),
  evLp (E160 L N) (evCallI (E160 L N) 0 1000) 1000 160 52 0 f160.c0 κ n (f160.T0 a b c d) (f160.H0 a b c d)
  =f160.l0 L N (f160.X0_e0 κ) n a b c d:=by
 intro n
 induction n with
 |zero=>intros;rfl
 |succ n ih=>
  intro a b c d
  rw [evLp_succ,f160.s0_eq]
  delta f160.R0
  simp only [ih]
  rfl
theorem f160.p0_e0_eq (L N:Nat) (κ:AV->Option R) (a:LI):
  (contAt (E160 L N) (evCallI (E160 L N) 0 1000) 1000 160 52 0 (codeOf Tryz.f160) (finK (E160 L N) 1000 Tryz.f160 (finC (.one (.sl i64)) κ))) (.exit 0) (f160.T0_e0 a) (f160.H0_e0 a)
  =f160.p0_e0 L N (fun a0=>κ (.tv (.sl i64) a0)) a:=by kernel_rfl
theorem f160.b_eq (L N:Nat) (κ:AV->Option R) (a:Graph) (c:LI):
  evBody (E160 L N) (evCallI (E160 L N) 0 1000) 1000 160 Tryz.f160 [(.tv (.st 2) a),(.tv (.sl i64) c)] [] [] (finC (.one (.sl i64)) κ)
  =f160.b L N (fun a0=>κ (.tv (.sl i64) a0)) a c:=by
 refine Eq.trans (b:=f160.b' L N (fun a0=>κ (.tv (.sl i64) a0)) (fun d e f g=>evLp (E160 L N) (evCallI (E160 L N) 0 1000) 1000 160 52 0 f160.c0 (contAt (E160 L N) (evCallI (E160 L N) 0 1000) 1000 160 52 0 (codeOf Tryz.f160) (finK (E160 L N) 1000 Tryz.f160 (finC (.one (.sl i64)) κ))) L (f160.T0 d e f g) (f160.H0 d e f g)) a c) (by kernel_rfl) ?_
 unfold f160.b
 simp only [f160.l0_eq]
 delta f160.X0_e0
 simp only [f160.p0_e0_eq]
theorem f160.ok (L N:Nat) (hΦ:TellsOk Tryz.prog ((Φ191 L N))):EntOk Tryz.prog 160 (f160.ent L N):=entDa_ok (E:=(E160 L N)) (dep:=1000) (f:=Tryz.f160) (sound_of hΦ) okP (callI_sound (sound_of hΦ) okP 0 1000) rfl fun d _ hy=>(f160.b_eq L N (unR (.one (.sl i64))) d.1 d.2.1).trans (Eq.trans (b:=f160.b L N some d.1 d.2.1) (by kernel_rfl) hy)
def Φ160 (L N:Nat):Tells:=(addT (Φ191 L N) 160 (f160.ent L N))
theorem Φ160_ok (L N:Nat):TellsOk Tryz.prog (Φ160 L N):=addT_ok (Φ191_ok L N) (f160.ok L N (Φ191_ok L N))
def f161.s0' (L N:Nat) (k0_e0:Option R) (k0_r:Bool->Option R) (rec0:LI->LI->Int->Option R) (b c:LI) (a:Int):Option R:=
 bif (decide (a<(b.length:Int))) then
  bif (decide (0≤a)&&decide (a<(b.length:Int))) then
   bif (decide (0≤a)&&decide (a<(c.length:Int))) then
    bif ((listAt b (0:Int) a.toNat) !=(listAt c (0:Int) a.toNat)) then
     k0_r false
    else rec0 b c (wi (a+(1:Int)))
   else none
  else none
 else k0_e0
def f161.s0 (L N:Nat) (k0_e0:Option R) (k0_r:Bool->Option R) (rec0:LI->LI->Int->Option R) (a b:LI) (c:Int):Option R:=
 f161.s0' L N k0_e0 k0_r rec0 a b c
def f161.l0 (L N:Nat) (k0_e0:Option R) (k0_r:Bool->Option R):Nat->LI->LI->Int->Option R
 |0,_,_,_=>none
 |n+1,a,b,c=>f161.s0 L N k0_e0 k0_r (f161.l0 L N k0_e0 k0_r n) a b c
def f161.T0 (a b:LI) (c:Int):T:=mkT 26 [(0,(.tv (.sl i64) a)),(1,(.tv (.sl i64) b)),(5,(.tv i64 c))]
def f161.H0 (a b:LI) (c:Int):H:=[]
def f161.T0_e0:T:=mkT 26 []
def f161.H0_e0:H:=[]
def f161.T0_r (a:Bool):T:=mkT 26 [(4,(.tv .bool a))]
def f161.H0_r (a:Bool):H:=[]
def f161.p0_e0' (L N:Nat) (k:Bool->Option R):Option R:=
 k true
def f161.p0_e0 (L N:Nat) (k:Bool->Option R):Option R:=
 f161.p0_e0' L N k
def f161.p0_r' (L N:Nat) (k:Bool->Option R) (a:Bool):Option R:=
 k a
def f161.p0_r (L N:Nat) (k:Bool->Option R) (a:Bool):Option R:=
 f161.p0_r' L N k a
def f161.b' (L N:Nat) (k:Bool->Option R) (c:LI->LI->Int->Option R) (a b:LI):Option R:=
 bif ((a.length:Int) !=(b.length:Int)) then
  k false
 else c a b (0:Int)
def f161.b (L N:Nat) (k:Bool->Option R) (a c:LI):Option R:=
 f161.b' L N k (fun d e f=>f161.l0 L N (f161.p0_e0 L N k) (fun g=>f161.p0_r L N k g) L d e f) a c
def f161 (L N:Nat) (a c:LI):Option (Bool):=f161.b L N some a c
def f161.ent (L N:Nat):=entRo [(.sl i64),(.sl i64)] (.one .bool) fun d=>f161 L N d.1 d.2.1
noncomputable def E161 (L N:Nat):Env:={P:=Tryz.prog,ty:=tyOf,Φ:=(Φ160 L N),inl:=inlT,live:=lives,liveX:=livesX,L:=L,dp:=none,prom:=promT,heal:=healT,ren:=renT}
noncomputable def f161.c0:Code:=loopAt 0 (codeOf Tryz.f161)
def f161.X0_e0 (κ:KX R):=κ (.exit 0) f161.T0_e0 f161.H0_e0
def f161.X0_r (κ:KX R):=fun a=>κ .ret (f161.T0_r a) (f161.H0_r a)
def f161.R0 (rec:KT R):=fun a b c=>rec (f161.T0 a b c) (f161.H0 a b c)
theorem f161.s0_eq (L N:Nat) (κ:KX R) (rec:KT R) (a b:LI) (c:Int):
  evRd (E161 L N) (evCallI (E161 L N) 0 1000) 1000 161 26 0 f161.c0 κ rec (f161.T0 a b c) (f161.H0 a b c)
  =f161.s0 L N (f161.X0_e0 κ) (f161.X0_r κ) (f161.R0 rec) a b c:=by kernel_rfl
theorem f161.l0_eq (L N:Nat) (κ:KX R):∀(n:Nat) (a b:LI) (c:Int),
  evLp (E161 L N) (evCallI (E161 L N) 0 1000) 1000 161 26 0 f161.c0 κ n (f161.T0 a b c) (f161.H0 a b c)
  =f161.l0 L N (f161.X0_e0 κ) (f161.X0_r κ) n a b c:=by
 intro n
 induction n with
 |zero=>intros;rfl
 |succ n ih=>
  intro a b c
  rw [evLp_succ,f161.s0_eq]
  delta f161.R0
  simp only [ih]
  rfl
theorem f161.p0_e0_eq (L N:Nat) (κ:AV->Option R):
  (contAt (E161 L N) (evCallI (E161 L N) 0 1000) 1000 161 26 0 (codeOf Tryz.f161) (finK (E161 L N) 1000 Tryz.f161 (finC (.one .bool) κ))) (.exit 0) f161.T0_e0 f161.H0_e0
  =f161.p0_e0 L N (fun a0=>κ (.tv .bool a0)):=by kernel_rfl
theorem f161.p0_r_eq (L N:Nat) (κ:AV->Option R) (a:Bool):
  (contAt (E161 L N) (evCallI (E161 L N) 0 1000) 1000 161 26 0 (codeOf Tryz.f161) (finK (E161 L N) 1000 Tryz.f161 (finC (.one .bool) κ))) .ret (f161.T0_r a) (f161.H0_r a)
  =f161.p0_r L N (fun a0=>κ (.tv .bool a0)) a:=by kernel_rfl
theorem f161.b_eq (L N:Nat) (κ:AV->Option R) (a c:LI):
  evBody (E161 L N) (evCallI (E161 L N) 0 1000) 1000 161 Tryz.f161 [(.tv (.sl i64) a),(.tv (.sl i64) c)] [] [] (finC (.one .bool) κ)
  =f161.b L N (fun a0=>κ (.tv .bool a0)) a c:=by
 refine Eq.trans (b:=f161.b' L N (fun a0=>κ (.tv .bool a0)) (fun d e f=>evLp (E161 L N) (evCallI (E161 L N) 0 1000) 1000 161 26 0 f161.c0 (contAt (E161 L N) (evCallI (E161 L N) 0 1000) 1000 161 26 0 (codeOf Tryz.f161) (finK (E161 L N) 1000 Tryz.f161 (finC (.one .bool) κ))) L (f161.T0 d e f) (f161.H0 d e f)) a c) (by kernel_rfl) ?_
 unfold f161.b
 simp only [f161.l0_eq]
 delta f161.X0_e0 f161.X0_r
 simp only [f161.p0_e0_eq,f161.p0_r_eq]
theorem f161.ok (L N:Nat) (hΦ:TellsOk Tryz.prog ((Φ160 L N))):EntOk Tryz.prog 161 (f161.ent L N):=entRo_ok (E:=(E161 L N)) (dep:=1000) (f:=Tryz.f161) (sound_of hΦ) okP (callI_sound (sound_of hΦ) okP 0 1000) rfl rfl fun d _ hy=>(f161.b_eq L N (unR (.one .bool)) d.1 d.2.1).trans (Eq.trans (b:=f161.b L N some d.1 d.2.1) (by kernel_rfl) hy)
def Φ161 (L N:Nat):Tells:=(addT (Φ160 L N) 161 (f161.ent L N))
theorem Φ161_ok (L N:Nat):TellsOk Tryz.prog (Φ161 L N):=addT_ok (Φ160_ok L N) (f161.ok L N (Φ160_ok L N))
def f120.s0' (L N:Nat) (k0_r:LLI->Option R) (rec0:LLM->LLI->Option R) (c:LLM) (a:LLI):Option R:=
 bif (decide (0≤(wi ((a.length:Int)-(1:Int))))&&decide ((wi ((a.length:Int)-(1:Int)))<(a.length:Int))) then
  (f160 L N (Graph.mk c) (listAt a [] (wi ((a.length:Int)-(1:Int))).toNat)).bind fun b=>
  bif (decide (0≤(wi ((a.length:Int)-(1:Int))))&&decide ((wi ((a.length:Int)-(1:Int)))<(a.length:Int))) then
   (f161 L N b (listAt a [] (wi ((a.length:Int)-(1:Int))).toNat)).bind fun d=>
   bif d then
    k0_r a
   else bif (decide (a.length+([b]:LLI).length≤lim)) then
    rec0 c (a++([b]:LLI))
   else none
  else none
 else none
def f120.s0 (L N:Nat) (k0_r:LLI->Option R) (rec0:LLM->LLI->Option R) (a:LLM) (b:LLI):Option R:=
 f120.s0' L N k0_r rec0 a b
def f120.l0 (L N:Nat) (k0_r:LLI->Option R):Nat->LLM->LLI->Option R
 |0,_,_=>none
 |n+1,a,b=>f120.s0 L N k0_r (f120.l0 L N k0_r n) a b
def f120.T0 (a:LLM) (b:LLI):T:=mkT 31 [(1,(.ptr 1001 0)),(3,(.row 1009))]
def f120.H0 (a:LLM) (b:LLI):H:=[(1001,(.box [(.tv (.sl (.sl (.st 0))) a)])),(1009,(.row 32 (.sl i64) b))]
def f120.T0_r (a:LLI):T:=mkT 31 [(2,(.row 1009))]
def f120.H0_r (a:LLI):H:=[(1009,(.row 32 (.sl i64) a))]
def f120.p0_r' (L N:Nat) (k:LLI->Option R) (a:LLI):Option R:=
 k a
def f120.p0_r (L N:Nat) (k:LLI->Option R) (a:LLI):Option R:=
 f120.p0_r' L N k a
def f120.b' (L N:Nat) (k:LLI->Option R) (b:LLM->LLI->Option R) (a:Graph):Option R:=
 bif (decide (0≤(a.moves.length:Int))&&decide ((a.moves.length:Int)≤(lim:Int))) then
  b a.moves ([(List.replicate (a.moves.length:Int).toNat (0:Int))]:LLI)
 else none
def f120.b (L N:Nat) (k:LLI->Option R) (a:Graph):Option R:=
 f120.b' L N k (fun c d=>f120.l0 L N (fun e=>f120.p0_r L N k e) L c d) a
def f120 (L N:Nat) (a:Graph):Option (LLI):=f120.b L N some a
def f120.ent (L N:Nat):=entDa [(.st 2)] (.one (.sl (.sl i64))) fun d=>f120 L N d.1
noncomputable def E120 (L N:Nat):Env:={P:=Tryz.prog,ty:=tyOf,Φ:=(Φ161 L N),inl:=inlT,live:=lives,liveX:=livesX,L:=L,dp:=none,prom:=promT,heal:=healT,ren:=renT}
noncomputable def f120.c0:Code:=loopAt 0 (codeOf Tryz.f120)
def f120.X0_r (κ:KX R):=fun a=>κ .ret (f120.T0_r a) (f120.H0_r a)
def f120.R0 (rec:KT R):=fun a b=>rec (f120.T0 a b) (f120.H0 a b)
theorem f120.s0_eq (L N:Nat) (κ:KX R) (rec:KT R) (a:LLM) (b:LLI):
  evRd (E120 L N) (evCallI (E120 L N) 0 1000) 1000 120 31 0 f120.c0 κ rec (f120.T0 a b) (f120.H0 a b)
  =f120.s0 L N (f120.X0_r κ) (f120.R0 rec) a b:=by kernel_rfl
theorem f120.l0_eq (L N:Nat) (κ:KX R):∀(n:Nat) (a:LLM) (b:LLI),
  evLp (E120 L N) (evCallI (E120 L N) 0 1000) 1000 120 31 0 f120.c0 κ n (f120.T0 a b) (f120.H0 a b)
  =f120.l0 L N (f120.X0_r κ) n a b:=by
 intro n
 induction n with
 |zero=>intros;rfl
 |succ n ih=>
  intro a b
  rw [evLp_succ,f120.s0_eq]
  delta f120.R0
  simp only [ih]
  rfl
theorem f120.p0_r_eq (L N:Nat) (κ:AV->Option R) (a:LLI):
  (contAt (E120 L N) (evCallI (E120 L N) 0 1000) 1000 120 31 0 (codeOf Tryz.f120) (finK (E120 L N) 1000 Tryz.f120 (finC (.one (.sl (.sl i64))) κ))) .ret (f120.T0_r a) (f120.H0_r a)
  =f120.p0_r L N (fun a0=>κ (.tv (.sl (.sl i64)) a0)) a:=by kernel_rfl
theorem f120.b_eq (L N:Nat) (κ:AV->Option R) (a:Graph):
  evBody (E120 L N) (evCallI (E120 L N) 0 1000) 1000 120 Tryz.f120 [(.tv (.st 2) a)] [] [] (finC (.one (.sl (.sl i64))) κ)
  =f120.b L N (fun a0=>κ (.tv (.sl (.sl i64)) a0)) a:=by
 refine Eq.trans (b:=f120.b' L N (fun a0=>κ (.tv (.sl (.sl i64)) a0)) (fun c d=>evLp (E120 L N) (evCallI (E120 L N) 0 1000) 1000 120 31 0 f120.c0 (contAt (E120 L N) (evCallI (E120 L N) 0 1000) 1000 120 31 0 (codeOf Tryz.f120) (finK (E120 L N) 1000 Tryz.f120 (finC (.one (.sl (.sl i64))) κ))) L (f120.T0 c d) (f120.H0 c d)) a) (by kernel_rfl) ?_
 unfold f120.b
 simp only [f120.l0_eq]
 delta f120.X0_r
 simp only [f120.p0_r_eq]
theorem f120.ok (L N:Nat) (hΦ:TellsOk Tryz.prog ((Φ161 L N))):EntOk Tryz.prog 120 (f120.ent L N):=entDa_ok (E:=(E120 L N)) (dep:=1000) (f:=Tryz.f120) (sound_of hΦ) okP (callI_sound (sound_of hΦ) okP 0 1000) rfl fun d _ hy=>(f120.b_eq L N (unR (.one (.sl (.sl i64)))) d.1).trans (Eq.trans (b:=f120.b L N some d.1) (by kernel_rfl) hy)
def Φ120 (L N:Nat):Tells:=(addT (Φ161 L N) 120 (f120.ent L N))
theorem Φ120_ok (L N:Nat):TellsOk Tryz.prog (Φ120 L N):=addT_ok (Φ161_ok L N) (f120.ok L N (Φ161_ok L N))
def f76.b' (L N:Nat) (k:LI->Option R) (b:Graph):Option R:=
 (f120 L N (Graph.mk b.moves)).bind fun a=>
 bif (decide (0≤(wi ((a.length:Int)-(1:Int))))&&decide ((wi ((a.length:Int)-(1:Int)))<(a.length:Int))) then
  k (listAt a [] (wi ((a.length:Int)-(1:Int))).toNat)
 else none
def f76.b (L N:Nat) (k:LI->Option R) (a:Graph):Option R:=
 f76.b' L N k a
def f76 (L N:Nat) (a:Graph):Option (LI):=f76.b L N some a
def f76.ent (L N:Nat):=entDa [(.st 2)] (.one (.sl i64)) fun d=>f76 L N d.1
noncomputable def E76 (L N:Nat):Env:={P:=Tryz.prog,ty:=tyOf,Φ:=(Φ120 L N),inl:=inlT,live:=lives,liveX:=livesX,L:=L,dp:=none,prom:=promT,heal:=healT,ren:=renT}
theorem f76.b_eq (L N:Nat) (κ:AV->Option R) (a:Graph):
  evBody (E76 L N) (evCallI (E76 L N) 0 1000) 1000 76 Tryz.f76 [(.tv (.st 2) a)] [] [] (finC (.one (.sl i64)) κ)
  =f76.b L N (fun a0=>κ (.tv (.sl i64) a0)) a:=by kernel_rfl
theorem f76.ok (L N:Nat) (hΦ:TellsOk Tryz.prog ((Φ120 L N))):EntOk Tryz.prog 76 (f76.ent L N):=entDa_ok (E:=(E76 L N)) (dep:=1000) (f:=Tryz.f76) (sound_of hΦ) okP (callI_sound (sound_of hΦ) okP 0 1000) rfl fun d _ hy=>(f76.b_eq L N (unR (.one (.sl i64))) d.1).trans (Eq.trans (b:=f76.b L N some d.1) (by kernel_rfl) hy)
def Φ76 (L N:Nat):Tells:=(addT (Φ120 L N) 76 (f76.ent L N))
theorem Φ76_ok (L N:Nat):TellsOk Tryz.prog (Φ76 L N):=addT_ok (Φ120_ok L N) (f76.ok L N (Φ120_ok L N))
def f44.b' (L N:Nat) (k:LI->Option R) (a:Graph):Option R:=
 (f75 L N (Graph.mk a.moves)).bind fun b=>
 bif (!b) then
  k ([]:LI)
 else (f45 L N (Graph.mk a.moves) false).bind fun c=>
 (f76 L N c).bind fun d=>
 k d
def f44.b (L N:Nat) (k:LI->Option R) (a:Graph):Option R:=
 f44.b' L N k a
def f44 (L N:Nat) (a:Graph):Option (LI):=f44.b L N some a
def f44.ent (L N:Nat):=entDa [(.st 2)] (.one (.sl i64)) fun d=>f44 L N d.1
noncomputable def E44 (L N:Nat):Env:={P:=Tryz.prog,ty:=tyOf,Φ:=(Φ76 L N),inl:=inlT,live:=lives,liveX:=livesX,L:=L,dp:=none,prom:=promT,heal:=healT,ren:=renT}
theorem f44.b_eq (L N:Nat) (κ:AV->Option R) (a:Graph):
  evBody (E44 L N) (evCallI (E44 L N) 0 1000) 1000 44 Tryz.f44 [(.tv (.st 2) a)] [] [] (finC (.one (.sl i64)) κ)
  =f44.b L N (fun a0=>κ (.tv (.sl i64) a0)) a:=by kernel_rfl
theorem f44.ok (L N:Nat) (hΦ:TellsOk Tryz.prog ((Φ76 L N))):EntOk Tryz.prog 44 (f44.ent L N):=entDa_ok (E:=(E44 L N)) (dep:=1000) (f:=Tryz.f44) (sound_of hΦ) okP (callI_sound (sound_of hΦ) okP 0 1000) rfl fun d _ hy=>(f44.b_eq L N (unR (.one (.sl i64))) d.1).trans (Eq.trans (b:=f44.b L N some d.1) (by kernel_rfl) hy)
def Φ44 (L N:Nat):Tells:=(addT (Φ76 L N) 44 (f44.ent L N))
theorem Φ44_ok (L N:Nat):TellsOk Tryz.prog (Φ44 L N):=addT_ok (Φ76_ok L N) (f44.ok L N (Φ76_ok L N))
def f46.s0' (L N:Nat) (k0_e0:Option R) (k0_r:Bool->Option R) (rec0:LI->Int->Int->Int->LLM->LLM->Option R) (d:LI) (a e c:Int) (b f:LLM):Option R:=
 bif (decide (0≤a)&&decide (a<(b.length:Int))) then
  bif (decide (c<((listAt b [] a.toNat).length:Int))) then
   bif (decide (0≤a)&&decide (a<(b.length:Int))) then
    bif (decide (0≤c)&&decide (c<((listAt b [] a.toNat).length:Int))) then
     bif (decide (0≤(listAt (listAt b [] a.toNat) (Ty.dflt (.st 0)) c.toNat).to)&&decide ((listAt (listAt b [] a.toNat) (Ty.dflt (.st 0)) c.toNat).to<(d.length:Int))) then
      (f79 L N (Graph.mk f) e ((listAt (listAt b [] a.toNat) (Ty.dflt (.st 0)) c.toNat).act) d (listAt d (0:Int) ((listAt (listAt b [] a.toNat) (Ty.dflt (.st 0)) c.toNat).to).toNat)).bind fun g=>
      bif (!g) then
       k0_r false
      else rec0 d a e (wi (c+(1:Int))) b f
     else none
    else none
   else none
  else k0_e0
 else none
def f46.s0 (L N:Nat) (k0_e0:Option R) (k0_r:Bool->Option R) (rec0:LI->Int->Int->Int->LLM->LLM->Option R) (a:LI) (b c d:Int) (e f:LLM):Option R:=
 f46.s0' L N k0_e0 k0_r rec0 a b c d e f
def f46.l0 (L N:Nat) (k0_e0:Option R) (k0_r:Bool->Option R):Nat->LI->Int->Int->Int->LLM->LLM->Option R
 |0,_,_,_,_,_,_=>none
 |n+1,a,b,c,d,e,f=>f46.s0 L N k0_e0 k0_r (f46.l0 L N k0_e0 k0_r n) a b c d e f
def f46.T0 (a:LI) (b c d:Int) (e f:LLM):T:=mkT 43 [(2,(.tv (.sl i64) a)),(3,(.tv i64 b)),(4,(.tv i64 c)),(5,(.ptr 1005 0)),(6,(.ptr 1006 0)),(11,(.tv i64 d))]
def f46.H0 (c:LI) (d e f:Int) (a b:LLM):H:=[(1005,(.box [(.tv (.sl (.sl (.st 0))) a)])),(1006,(.box [(.tv (.sl (.sl (.st 0))) b)]))]
def f46.T0_e0:T:=mkT 43 []
def f46.H0_e0:H:=[]
def f46.T0_r (a:Bool):T:=mkT 43 [(10,(.tv .bool a))]
def f46.H0_r (a:Bool):H:=[]
def f46.p0_e0' (L N:Nat) (k:Bool->Option R):Option R:=
 k true
def f46.p0_e0 (L N:Nat) (k:Bool->Option R):Option R:=
 f46.p0_e0' L N k
def f46.p0_r' (L N:Nat) (k:Bool->Option R) (a:Bool):Option R:=
 k a
def f46.p0_r (L N:Nat) (k:Bool->Option R) (a:Bool):Option R:=
 f46.p0_r' L N k a
def f46.b' (L N:Nat) (k:Bool->Option R) (a:LI->Int->Int->Int->LLM->LLM->Option R) (b c:Graph) (d:LI) (e f:Int):Option R:=
 a d e f (0:Int) b.moves c.moves
def f46.b (L N:Nat) (k:Bool->Option R) (a c:Graph) (d:LI) (e f:Int):Option R:=
 f46.b' L N k (fun g h i j l m=>f46.l0 L N (f46.p0_e0 L N k) (fun n=>f46.p0_r L N k n) L g h i j l m) a c d e f
def f46 (L N:Nat) (a c:Graph) (d:LI) (e f:Int):Option (Bool):=f46.b L N some a c d e f
def f46.ent (L N:Nat):=entRo [(.st 2),(.st 2),(.sl i64),i64,i64] (.one .bool) fun d=>f46 L N d.1 d.2.1 d.2.2.1 d.2.2.2.1 d.2.2.2.2.1
noncomputable def E46 (L N:Nat):Env:={P:=Tryz.prog,ty:=tyOf,Φ:=(Φ44 L N),inl:=inlT,live:=lives,liveX:=livesX,L:=L,dp:=none,prom:=promT,heal:=healT,ren:=renT}
noncomputable def f46.c0:Code:=loopAt 0 (codeOf Tryz.f46)
def f46.X0_e0 (κ:KX R):=κ (.exit 0) f46.T0_e0 f46.H0_e0
def f46.X0_r (κ:KX R):=fun a=>κ .ret (f46.T0_r a) (f46.H0_r a)
def f46.R0 (rec:KT R):=fun a b c d e f=>rec (f46.T0 a b c d e f) (f46.H0 a b c d e f)
theorem f46.s0_eq (L N:Nat) (κ:KX R) (rec:KT R) (a:LI) (b c d:Int) (e f:LLM):
  evRd (E46 L N) (evCallI (E46 L N) 0 1000) 1000 46 43 0 f46.c0 κ rec (f46.T0 a b c d e f) (f46.H0 a b c d e f)
  =f46.s0 L N (f46.X0_e0 κ) (f46.X0_r κ) (f46.R0 rec) a b c d e f:=by kernel_rfl
theorem f46.l0_eq (L N:Nat) (κ:KX R):∀(n:Nat) (a:LI) (b c d:Int) (e f:LLM),
  evLp (E46 L N) (evCallI (E46 L N) 0 1000) 1000 46 43 0 f46.c0 κ n (f46.T0 a b c d e f) (f46.H0 a b c d e f)
  =f46.l0 L N (f46.X0_e0 κ) (f46.X0_r κ) n a b c d e f:=by
 intro n
 induction n with
 |zero=>intros;rfl
 |succ n ih=>
  intro a b c d e f
  rw [evLp_succ,f46.s0_eq]
  delta f46.R0
  simp only [ih]
  rfl
theorem f46.p0_e0_eq (L N:Nat) (κ:AV->Option R):
  (contAt (E46 L N) (evCallI (E46 L N) 0 1000) 1000 46 43 0 (codeOf Tryz.f46) (finK (E46 L N) 1000 Tryz.f46 (finC (.one .bool) κ))) (.exit 0) f46.T0_e0 f46.H0_e0
  =f46.p0_e0 L N (fun a0=>κ (.tv .bool a0)):=by kernel_rfl
theorem f46.p0_r_eq (L N:Nat) (κ:AV->Option R) (a:Bool):
  (contAt (E46 L N) (evCallI (E46 L N) 0 1000) 1000 46 43 0 (codeOf Tryz.f46) (finK (E46 L N) 1000 Tryz.f46 (finC (.one .bool) κ))) .ret (f46.T0_r a) (f46.H0_r a)
  =f46.p0_r L N (fun a0=>κ (.tv .bool a0)) a:=by kernel_rfl
theorem f46.b_eq (L N:Nat) (κ:AV->Option R) (a c:Graph) (d:LI) (e f:Int):
  evBody (E46 L N) (evCallI (E46 L N) 0 1000) 1000 46 Tryz.f46 [(.tv (.st 2) a),(.tv (.st 2) c),(.tv (.sl i64) d),(.tv i64 e),(.tv i64 f)] [] [] (finC (.one .bool) κ)
  =f46.b L N (fun a0=>κ (.tv .bool a0)) a c d e f:=by
 refine Eq.trans (b:=f46.b' L N (fun a0=>κ (.tv .bool a0)) (fun g h i j k l=>evLp (E46 L N) (evCallI (E46 L N) 0 1000) 1000 46 43 0 f46.c0 (contAt (E46 L N) (evCallI (E46 L N) 0 1000) 1000 46 43 0 (codeOf Tryz.f46) (finK (E46 L N) 1000 Tryz.f46 (finC (.one .bool) κ))) L (f46.T0 g h i j k l) (f46.H0 g h i j k l)) a c d e f) (by kernel_rfl) ?_
 unfold f46.b
 simp only [f46.l0_eq]
 delta f46.X0_e0 f46.X0_r
 simp only [f46.p0_e0_eq,f46.p0_r_eq]
theorem f46.ok (L N:Nat) (hΦ:TellsOk Tryz.prog ((Φ44 L N))):EntOk Tryz.prog 46 (f46.ent L N):=entRo_ok (E:=(E46 L N)) (dep:=1000) (f:=Tryz.f46) (sound_of hΦ) okP (callI_sound (sound_of hΦ) okP 0 1000) rfl rfl fun d _ hy=>(f46.b_eq L N (unR (.one .bool)) d.1 d.2.1 d.2.2.1 d.2.2.2.1 d.2.2.2.2.1).trans (Eq.trans (b:=f46.b L N some d.1 d.2.1 d.2.2.1 d.2.2.2.1 d.2.2.2.2.1) (by kernel_rfl) hy)
def Φ46 (L N:Nat):Tells:=(addT (Φ44 L N) 46 (f46.ent L N))
theorem Φ46_ok (L N:Nat):TellsOk Tryz.prog (Φ46 L N):=addT_ok (Φ44_ok L N) (f46.ok L N (Φ44_ok L N))
def f12.b' (L N:Nat) (k:Bool->Bool->Option R) (b c:Tree) (f:LT):Option R:=
 (f43 L N (Tree.mk b.op b.n b.parts) (Tree.mk c.op c.n c.parts) f).bind fun a=>
 bif (!a.2.2) then
  k false false
 else (f44 L N (Graph.mk a.1.moves)).bind fun d=>
 (f45 L N (Graph.mk a.1.moves) true).bind fun e=>
 (f46 L N (Graph.mk a.1.moves) (Graph.mk e.moves) d (0:Int) a.2.1).bind fun g=>
 bif g then
  (f46 L N (Graph.mk a.1.moves) (Graph.mk e.moves) d a.2.1 (0:Int)).bind fun h=>
  k h true
 else k false true
def f12.b (L N:Nat) (k:Bool->Bool->Option R) (a c:Tree) (d:LT):Option R:=
 f12.b' L N k a c d
def f12 (L N:Nat) (a c:Tree) (d:LT):Option (Bool×Bool):=f12.b L N (fun a0 a1=>some (a0,a1)) a c d
def f12.ent (L N:Nat):=entRo [(.st 1),(.st 1),(.sl (.st 1))] (.many [.bool,.bool]) fun d=>f12 L N d.1 d.2.1 d.2.2.1
noncomputable def E12 (L N:Nat):Env:={P:=Tryz.prog,ty:=tyOf,Φ:=(Φ46 L N),inl:=inlT,live:=lives,liveX:=livesX,L:=L,dp:=none,prom:=promT,heal:=healT,ren:=renT}
theorem f12.b_eq (L N:Nat) (κ:AV->Option R) (a c:Tree) (d:LT):
  evBody (E12 L N) (evCallI (E12 L N) 0 1000) 1000 12 Tryz.f12 [(.tv (.st 1) a),(.tv (.st 1) c),(.tv (.sl (.st 1)) d)] [] [] (finC (.many [.bool,.bool]) κ)
  =f12.b L N (fun a0 a1=>κ (.tup [(.tv .bool a0),(.tv .bool a1)])) a c d:=by kernel_rfl
theorem f12.ok (L N:Nat) (hΦ:TellsOk Tryz.prog ((Φ46 L N))):EntOk Tryz.prog 12 (f12.ent L N):=entRo_ok (E:=(E12 L N)) (dep:=1000) (f:=Tryz.f12) (sound_of hΦ) okP (callI_sound (sound_of hΦ) okP 0 1000) rfl rfl fun d _ hy=>(f12.b_eq L N (unR (.many [.bool,.bool])) d.1 d.2.1 d.2.2.1).trans (Eq.trans (b:=f12.b L N (fun a0 a1=>some (a0,a1)) d.1 d.2.1 d.2.2.1) (by kernel_rfl) hy)
def Φ12 (L N:Nat):Tells:=(addT (Φ46 L N) 12 (f12.ent L N))
theorem Φ12_ok (L N:Nat):TellsOk Tryz.prog (Φ12 L N):=addT_ok (Φ46_ok L N) (f12.ok L N (Φ46_ok L N))
def f13.b' (L N:Nat) (k:Tree->Option R) (a b:Int) (c:LT):Option R:=
 k (Tree.mk ((Tree.mk a b c).op) ((Tree.mk a b c).n) ((Tree.mk a b c).parts))
def f13.b (L N:Nat) (k:Tree->Option R) (a c:Int) (d:LT):Option R:=
 f13.b' L N k a c d
def f13 (L N:Nat) (a c:Int) (d:LT):Option (Tree):=f13.b L N some a c d
def f13.ent (L N:Nat):=entDa [i64,i64,(.sl (.st 1))] (.one (.st 1)) fun d=>f13 L N d.1 d.2.1 d.2.2.1
noncomputable def E13 (L N:Nat):Env:={P:=Tryz.prog,ty:=tyOf,Φ:=(Φ12 L N),inl:=inlT,live:=lives,liveX:=livesX,L:=L,dp:=none,prom:=promT,heal:=healT,ren:=renT}
theorem f13.b_eq (L N:Nat) (κ:AV->Option R) (a c:Int) (d:LT):
  evBody (E13 L N) (evCallI (E13 L N) 0 1000) 1000 13 Tryz.f13 [(.tv i64 a),(.tv i64 c),(.tv (.sl (.st 1)) d)] [] [] (finC (.one (.st 1)) κ)
  =f13.b L N (fun a0=>κ (.tv (.st 1) a0)) a c d:=by kernel_rfl
theorem f13.ok (L N:Nat) (hΦ:TellsOk Tryz.prog ((Φ12 L N))):EntOk Tryz.prog 13 (f13.ent L N):=entDa_ok (E:=(E13 L N)) (dep:=1000) (f:=Tryz.f13) (sound_of hΦ) okP (callI_sound (sound_of hΦ) okP 0 1000) rfl fun d _ hy=>(f13.b_eq L N (unR (.one (.st 1))) d.1 d.2.1 d.2.2.1).trans (Eq.trans (b:=f13.b L N some d.1 d.2.1 d.2.2.1) (by kernel_rfl) hy)
def Φ13 (L N:Nat):Tells:=(addT (Φ12 L N) 13 (f13.ent L N))
theorem Φ13_ok (L N:Nat):TellsOk Tryz.prog (Φ13 L N):=addT_ok (Φ12_ok L N) (f13.ok L N (Φ12_ok L N))
def f14.b' (L N:Nat) (k:Bool->Bool->Option R) (c d:Tree) (e:LT):Option R:=
 (f35 L N (Tree.mk c.op c.n c.parts) (Tree.mk d.op d.n d.parts) e).bind fun a=>
 bif (!a.2.2) then
  k false false
 else (f36 L N (Graph.mk a.1.moves)).bind fun f=>
 (f37 L N f).bind fun b=>
 bif (decide (0≤(0:Int))&&decide ((0:Int)<(b.length:Int))) then
  bif (decide (0≤a.2.1)&&decide (a.2.1<(b.length:Int))) then
   k ((listAt b (0:Int) (0:Int).toNat)==(listAt b (0:Int) a.2.1.toNat)) true
  else none
 else none
def f14.b (L N:Nat) (k:Bool->Bool->Option R) (a c:Tree) (d:LT):Option R:=
 f14.b' L N k a c d
def f14 (L N:Nat) (a c:Tree) (d:LT):Option (Bool×Bool):=f14.b L N (fun a0 a1=>some (a0,a1)) a c d
def f14.ent (L N:Nat):=entRo [(.st 1),(.st 1),(.sl (.st 1))] (.many [.bool,.bool]) fun d=>f14 L N d.1 d.2.1 d.2.2.1
noncomputable def E14 (L N:Nat):Env:={P:=Tryz.prog,ty:=tyOf,Φ:=(Φ13 L N),inl:=inlT,live:=lives,liveX:=livesX,L:=L,dp:=none,prom:=promT,heal:=healT,ren:=renT}
theorem f14.b_eq (L N:Nat) (κ:AV->Option R) (a c:Tree) (d:LT):
  evBody (E14 L N) (evCallI (E14 L N) 0 1000) 1000 14 Tryz.f14 [(.tv (.st 1) a),(.tv (.st 1) c),(.tv (.sl (.st 1)) d)] [] [] (finC (.many [.bool,.bool]) κ)
  =f14.b L N (fun a0 a1=>κ (.tup [(.tv .bool a0),(.tv .bool a1)])) a c d:=by kernel_rfl
theorem f14.ok (L N:Nat) (hΦ:TellsOk Tryz.prog ((Φ13 L N))):EntOk Tryz.prog 14 (f14.ent L N):=entRo_ok (E:=(E14 L N)) (dep:=1000) (f:=Tryz.f14) (sound_of hΦ) okP (callI_sound (sound_of hΦ) okP 0 1000) rfl rfl fun d _ hy=>(f14.b_eq L N (unR (.many [.bool,.bool])) d.1 d.2.1 d.2.2.1).trans (Eq.trans (b:=f14.b L N (fun a0 a1=>some (a0,a1)) d.1 d.2.1 d.2.2.1) (by kernel_rfl) hy)
def Φ14 (L N:Nat):Tells:=(addT (Φ13 L N) 14 (f14.ent L N))
theorem Φ14_ok (L N:Nat):TellsOk Tryz.prog (Φ14 L N):=addT_ok (Φ13_ok L N) (f14.ok L N (Φ13_ok L N))
def f3.j0' (L N:Nat) (k:Bool->Option R) (e:LT) (l:Bool) (b c:Int) (d:LT) (f g:Int) (h:LT):Option R:=
 (f13 L N (2:Int) (0:Int) ([(Tree.mk b c d),(Tree.mk b c d)]:LT)).bind fun m=>
 (f13 L N (2:Int) (0:Int) ([(Tree.mk f g h),(Tree.mk b c d)]:LT)).bind fun n=>
 (f11 L N m n e).bind fun j=>
 (f14 L N (Tree.mk b c d) (Tree.mk f g h) e).bind fun i=>
 (f13 L N (1:Int) (2:Int) ([(Tree.mk b c d)]:LT)).bind fun o=>
 (f13 L N (1:Int) (2:Int) ([(Tree.mk f g h)]:LT)).bind fun p=>
 (f11 L N o p e).bind fun a=>
 bif (!l) then
  bif (!i.1) then
   k true
  else bif (!a.2) then
   k true
  else k a.1
 else bif (!j.2) then
  bif (!i.1) then
   k true
  else bif (!a.2) then
   k true
  else k a.1
 else bif j.1 then
  bif (!i.1) then
   k true
  else bif (!a.2) then
   k true
  else k a.1
 else k false
def f3.b' (L N:Nat) (k:Bool->Option R) (c:LI):Option R:=
 bif (decide ((c.length:Int)>(1048576:Int))) then
  k true
 else (f10 L N c).bind fun a=>
 (f11 L N (Tree.mk a.1.op a.1.n a.1.parts) (Tree.mk a.2.1.op a.2.1.n a.2.1.parts) a.2.2).bind fun b=>
 (f12 L N (Tree.mk a.1.op a.1.n a.1.parts) (Tree.mk a.2.1.op a.2.1.n a.2.1.parts) a.2.2).bind fun d=>
 bif (!(b.1==d.1)) then
  k false
 else bif (!(b.2==d.2)) then
  k false
 else f3.j0' L N k a.2.2 b.1 a.1.op a.1.n a.1.parts a.2.1.op a.2.1.n a.2.1.parts
def f3.b (L N:Nat) (k:Bool->Option R) (a:LI):Option R:=
 f3.b' L N k a
def f3 (L N:Nat) (a:LI):Option (Bool):=f3.b L N some a
def f3.ent (L N:Nat):=entRo [(.sl (.int .u8))] (.one .bool) fun d=>f3 L N d.1
noncomputable def E3 (L N:Nat):Env:={P:=Tryz.prog,ty:=tyOf,Φ:=(Φ14 L N),inl:=inlT,live:=lives,liveX:=livesX,L:=L,dp:=none,prom:=promT,heal:=healT,ren:=renT}
theorem f3.b_eq (L N:Nat) (κ:AV->Option R) (a:LI):
  evBody (E3 L N) (evCallI (E3 L N) 0 1000) 1000 3 Tryz.f3 [(.tv (.sl (.int .u8)) a)] [] [] (finC (.one .bool) κ)
  =f3.b L N (fun a0=>κ (.tv .bool a0)) a:=by kernel_rfl
theorem f3.ok (L N:Nat) (hΦ:TellsOk Tryz.prog ((Φ14 L N))):EntOk Tryz.prog 3 (f3.ent L N):=entRo_ok (E:=(E3 L N)) (dep:=1000) (f:=Tryz.f3) (sound_of hΦ) okP (callI_sound (sound_of hΦ) okP 0 1000) rfl rfl fun d _ hy=>(f3.b_eq L N (unR (.one .bool)) d.1).trans (Eq.trans (b:=f3.b L N some d.1) (by kernel_rfl) hy)
def Φ3 (L N:Nat):Tells:=(addT (Φ14 L N) 3 (f3.ent L N))
theorem Φ3_ok (L N:Nat):TellsOk Tryz.prog (Φ3 L N):=addT_ok (Φ14_ok L N) (f3.ok L N (Φ14_ok L N))
end Go.Proofs.YthidlhjjnaldhaaGreatDoor.Ev
