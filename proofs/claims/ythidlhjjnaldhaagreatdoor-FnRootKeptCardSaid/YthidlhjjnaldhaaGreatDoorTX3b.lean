/- The seat's functions as plain functions, continued: made by program (wip/gen/gen.py). -/
import Derived.Test.YthidlhjjnaldhaaGreatDoorTX3a
namespace Go.Proofs.YthidlhjjnaldhaaGreatDoor.Ev
open Go
variable {R:Type}
set_option linter.unusedVariables false
set_option maxRecDepth 20000
def f39.T1 (a:Int) (b:LLM) (c:LB) (d:LI):T:=mkT 79 [(2,(.ptr 1002 0)),(5,(.row 1015)),(6,(.row 1016)),(9,(.tv i64 a))]
def f39.H1 (d:Int) (a:LLM) (b:LB) (c:LI):H:=[(1002,(.box [(.tv (.sl (.sl (.st 0))) a)])),(1015,(.row 4 .bool b)),(1016,(.row 3 i64 c))]
def f39.T1_e2 (a:LI):T:=mkT 79 [(6,(.row 1016))]
def f39.H1_e2 (a:LI):H:=[(1016,(.row 3 i64 a))]
def f39.p1_e2' (L N:Nat) (k:LI->Option R) (a:LI):Option R:=
 ((fsort a)).bind fun b=>
 k (sortI a)
def f39.p1_e2 (L N:Nat) (k:LI->Option R) (a:LI):Option R:=
 f39.p1_e2' L N k a
def f39.p0_e0' (L N:Nat) (k:LI->Option R) (a:Int->LLM->LB->LI->Option R) (b:LLM) (c:LB) (d:LI):Option R:=
 a (0:Int) b c d
def f39.p0_e0 (L N:Nat) (k:LI->Option R) (a:LLM) (b:LB) (c:LI):Option R:=
 f39.p0_e0' L N k (fun d e f g=>f39.l1 L N (fun h=>f39.p1_e2 L N k h) L d e f g) a b c
def f39.b' (L N:Nat) (k:LI->Option R) (c:LI->Int->Int->LLM->LB->LI->Option R) (a:Graph) (b:LI):Option R:=
 bif (decide (0≤(a.moves.length:Int))&&decide ((a.moves.length:Int)≤(lim:Int))) then
  c b (b.length:Int) (0:Int) a.moves (List.replicate (a.moves.length:Int).toNat false) ([]:LI)
 else none
def f39.b (L N:Nat) (k:LI->Option R) (a:Graph) (c:LI):Option R:=
 f39.b' L N k (fun d e f g h i=>f39.l0 L N (fun j l m=>f39.p0_e0 L N k j l m) L d e f g h i) a c
def f39 (L N:Nat) (a:Graph) (c:LI):Option (LI):=f39.b L N some a c
def f39.ent (L N:Nat) (args:List AV) (vw:View) (site:Nat):Ans:=match roD [(.st 2),(.sl i64)] vw args with
 |some d=>⟨LI,f39 L N d.1 d.2.1,fun y=>(RN.av site .row (),[(site,some (mkO none 3 i64 y))],[])⟩
 |none=>Ans.no
noncomputable def E39 (L N:Nat):Env:={P:=Tryz.prog,ty:=tyOf,Φ:=(Φ35 L N),inl:=inlT,live:=lives,liveX:=livesX,L:=L,dp:=none,prom:=promT,heal:=healT,ren:=renT}
noncomputable def f39.c0:Code:=loopAt 0 (codeOf Tryz.f39)
def f39.X0_e0 (κ:KX R):=fun a b c=>κ (.exit 0) (f39.T0_e0 a b c) (f39.H0_e0 a b c)
def f39.R0 (rec:KT R):=fun a b c d e f=>rec (f39.T0 a b c d e f) (f39.H0 a b c d e f)
theorem f39.s0_eq (L N:Nat) (κ:KX R) (rec:KT R) (a:LI) (b c:Int) (d:LLM) (e:LB) (f:LI):
  evRd (E39 L N) (evCallI (E39 L N) 0 1000) 1000 39 79 0 f39.c0 κ rec (f39.T0 a b c d e f) (f39.H0 a b c d e f)
  =f39.s0 L N (f39.X0_e0 κ) (f39.R0 rec) a b c d e f:=by kernel_rfl
theorem f39.l0_eq (L N:Nat) (κ:KX R):∀(n:Nat) (a:LI) (b c:Int) (d:LLM) (e:LB) (f:LI),
  evLp (E39 L N) (evCallI (E39 L N) 0 1000) 1000 39 79 0 f39.c0 κ n (f39.T0 a b c d e f) (f39.H0 a b c d e f)
  =f39.l0 L N (f39.X0_e0 κ) n a b c d e f:=by
 intro n
 induction n with
 |zero=>intros;rfl
 |succ n ih=>
  intro a b c d e f
  rw [evLp_succ,f39.s0_eq]
  delta f39.R0
  simp only [ih]
  rfl
noncomputable def f39.c1:Code:=loopAt 2 (codeOf Tryz.f39)
noncomputable def f39.c2:Code:=loopAt 4 f39.c1
def f39.X2_e4 (κ:KX R):=fun a b c d=>κ (.exit 4) (f39.T2_e4 a b c d) (f39.H2_e4 a b c d)
def f39.R2 (rec:KT R):=fun a b c d e f g=>rec (f39.T2 a b c d e f g) (f39.H2 a b c d e f g)
theorem f39.s2_eq (L N:Nat) (κ:KX R) (rec:KT R) (a:Int) (b:LM) (c d:Int) (e:LLM) (f:LB) (g:LI):
  evRd (E39 L N) (evCallI (E39 L N) 0 1000) 1000 39 79 4 f39.c2 κ rec (f39.T2 a b c d e f g) (f39.H2 a b c d e f g)
  =f39.s2 L N (f39.X2_e4 κ) (f39.R2 rec) a b c d e f g:=by kernel_rfl
theorem f39.l2_eq (L N:Nat) (κ:KX R):∀(n:Nat) (a:Int) (b:LM) (c d:Int) (e:LLM) (f:LB) (g:LI),
  evLp (E39 L N) (evCallI (E39 L N) 0 1000) 1000 39 79 4 f39.c2 κ n (f39.T2 a b c d e f g) (f39.H2 a b c d e f g)
  =f39.l2 L N (f39.X2_e4 κ) n a b c d e f g:=by
 intro n
 induction n with
 |zero=>intros;rfl
 |succ n ih=>
  intro a b c d e f g
  rw [evLp_succ,f39.s2_eq]
  delta f39.R2
  simp only [ih]
  rfl
def f39.X1_e2 (κ:KX R):=fun a=>κ (.exit 2) (f39.T1_e2 a) (f39.H1_e2 a)
def f39.R1 (rec:KT R):=fun a b c d=>rec (f39.T1 a b c d) (f39.H1 a b c d)
theorem f39.p2_e4_eq (L N:Nat) (κ:KX R) (rec:KT R) (a:Int) (b:LLM) (c:LB) (d:LI):
  (contAt (E39 L N) (evCallI (E39 L N) 0 1000) 1000 39 79 4 f39.c1 (rdK (E39 L N) 1000 39 79 2 κ rec)) (.exit 4) (f39.T2_e4 a b c d) (f39.H2_e4 a b c d)
  =f39.p2_e4 L N (f39.X1_e2 κ) (f39.R1 rec) a b c d:=by kernel_rfl
theorem f39.s1_eq (L N:Nat) (κ:KX R) (rec:KT R) (a:Int) (c:LLM) (d:LB) (e:LI):
  evRd (E39 L N) (evCallI (E39 L N) 0 1000) 1000 39 79 2 f39.c1 κ rec (f39.T1 a c d e) (f39.H1 a c d e)
  =f39.s1 L N (f39.X1_e2 κ) (f39.R1 rec) a c d e:=by
 refine Eq.trans (b:=f39.s1' L N (f39.X1_e2 κ) (f39.R1 rec) (fun f g h i j k l=>evLp (E39 L N) (evCallI (E39 L N) 0 1000) 1000 39 79 4 f39.c2 (contAt (E39 L N) (evCallI (E39 L N) 0 1000) 1000 39 79 4 f39.c1 (rdK (E39 L N) 1000 39 79 2 κ rec)) L (f39.T2 f g h i j k l) (f39.H2 f g h i j k l)) a c d e) (by kernel_rfl) ?_
 unfold f39.s1
 simp only [f39.l2_eq]
 delta f39.X2_e4
 simp only [f39.p2_e4_eq]
theorem f39.l1_eq (L N:Nat) (κ:KX R):∀(n:Nat) (a:Int) (b:LLM) (c:LB) (d:LI),
  evLp (E39 L N) (evCallI (E39 L N) 0 1000) 1000 39 79 2 f39.c1 κ n (f39.T1 a b c d) (f39.H1 a b c d)
  =f39.l1 L N (f39.X1_e2 κ) n a b c d:=by
 intro n
 induction n with
 |zero=>intros;rfl
 |succ n ih=>
  intro a b c d
  rw [evLp_succ,f39.s1_eq]
  delta f39.R1
  simp only [ih]
  rfl
theorem f39.p1_e2_eq (L N:Nat) (κ:RN.Den .row->List Int->Option R) (a:LI):
  (contAt (E39 L N) (evCallI (E39 L N) 0 1000) 1000 39 79 2 (codeOf Tryz.f39) (finK (E39 L N) 1000 Tryz.f39 (finN .row none 3 i64 κ))) (.exit 2) (f39.T1_e2 a) (f39.H1_e2 a)
  =f39.p1_e2 L N (fun a0=>κ () a0) a:=by kernel_rfl
theorem f39.p0_e0_eq (L N:Nat) (κ:RN.Den .row->List Int->Option R) (a:LLM) (c:LB) (d:LI):
  (contAt (E39 L N) (evCallI (E39 L N) 0 1000) 1000 39 79 0 (codeOf Tryz.f39) (finK (E39 L N) 1000 Tryz.f39 (finN .row none 3 i64 κ))) (.exit 0) (f39.T0_e0 a c d) (f39.H0_e0 a c d)
  =f39.p0_e0 L N (fun a0=>κ () a0) a c d:=by
 refine Eq.trans (b:=f39.p0_e0' L N (fun a0=>κ () a0) (fun e f g h=>evLp (E39 L N) (evCallI (E39 L N) 0 1000) 1000 39 79 2 f39.c1 (contAt (E39 L N) (evCallI (E39 L N) 0 1000) 1000 39 79 2 (codeOf Tryz.f39) (finK (E39 L N) 1000 Tryz.f39 (finN .row none 3 i64 κ))) L (f39.T1 e f g h) (f39.H1 e f g h)) a c d) (by kernel_rfl) ?_
 unfold f39.p0_e0
 simp only [f39.l1_eq]
 delta f39.X1_e2
 simp only [f39.p1_e2_eq]
theorem f39.b_eq (L N:Nat) (κ:RN.Den .row->List Int->Option R) (a:Graph) (c:LI):
  evBody (E39 L N) (evCallI (E39 L N) 0 1000) 1000 39 Tryz.f39 [(.tv (.st 2) a),(.tv (.sl i64) c)] [] [] (finN .row none 3 i64 κ)
  =f39.b L N (fun a0=>κ () a0) a c:=by
 refine Eq.trans (b:=f39.b' L N (fun a0=>κ () a0) (fun d e f g h i=>evLp (E39 L N) (evCallI (E39 L N) 0 1000) 1000 39 79 0 f39.c0 (contAt (E39 L N) (evCallI (E39 L N) 0 1000) 1000 39 79 0 (codeOf Tryz.f39) (finK (E39 L N) 1000 Tryz.f39 (finN .row none 3 i64 κ))) L (f39.T0 d e f g h i) (f39.H0 d e f g h i)) a c) (by kernel_rfl) ?_
 unfold f39.b
 simp only [f39.l0_eq]
 delta f39.X0_e0
 simp only [f39.p0_e0_eq]
theorem f39.ok (L N:Nat) (hΦ:TellsOk Tryz.prog ((Φ35 L N))):EntOk Tryz.prog 39 (f39.ent L N):=by
 intro args vw site h
 unfold f39.ent
 split
 ·rename_i d ha
  intro y hy hs
  refine call_ron (y:=y) (dep:=1000) (E:=(E39 L N)) (ts:=[(.st 2),(.sl i64)]) (rn:=.row) (q:=none) (el:=3) (ty:=i64) (d1:=()) (xs:=y) (κ:=(fun d xs=>some xs)) (sound_of hΦ) okP (callI_sound (sound_of hΦ) okP 0 1000) (f:=Tryz.f39) rfl hs ha ?_ (fun _ _ h=>by obtain rfl:=Option.some.inj h;exact ⟨rfl,rfl⟩) rfl site
  exact (f39.b_eq L N (fun d xs=>some xs) d.1 d.2.1).trans (Eq.trans (b:=f39.b L N some d.1 d.2.1) (by kernel_rfl) hy)
 ·intro y hy
  cases hy
def Φ39 (L N:Nat):Tells:=(addT (Φ35 L N) 39 (f39.ent L N))
theorem Φ39_ok (L N:Nat):TellsOk Tryz.prog (Φ39 L N):=addT_ok (Φ35_ok L N) (f39.ok L N (Φ35_ok L N))
def f67.s0' (L N:Nat) (k0_e0:LLI->Option R) (rec0:Int->Int->LLM->LLI->Option R) (c a:Int) (d:LLM) (b:LLI):Option R:=
 bif (decide (a<c)) then
  (f39 L N (Graph.mk d) ([a]:LI)).bind fun e=>
  bif (decide (b.length+([e]:LLI).length≤lim)) then
   rec0 c (wi (a+(1:Int))) d (b++([e]:LLI))
  else none
 else k0_e0 b
def f67.s0 (L N:Nat) (k0_e0:LLI->Option R) (rec0:Int->Int->LLM->LLI->Option R) (a b:Int) (c:LLM) (d:LLI):Option R:=
 f67.s0' L N k0_e0 rec0 a b c d
def f67.l0 (L N:Nat) (k0_e0:LLI->Option R):Nat->Int->Int->LLM->LLI->Option R
 |0,_,_,_,_=>none
 |n+1,a,b,c,d=>f67.s0 L N k0_e0 (f67.l0 L N k0_e0 n) a b c d
def f67.T0 (a b:Int) (c:LLM) (d:LLI):T:=mkT 21 [(1,(.ptr 1001 0)),(3,(.row 1005)),(8,(.tv i64 a)),(9,(.tv i64 b))]
def f67.H0 (c d:Int) (a:LLM) (b:LLI):H:=[(1001,(.box [(.tv (.sl (.sl (.st 0))) a)])),(1005,(.row 32 (.sl i64) b))]
def f67.T0_e0 (a:LLI):T:=mkT 21 [(3,(.row 1005))]
def f67.H0_e0 (a:LLI):H:=[(1005,(.row 32 (.sl i64) a))]
def f67.p0_e0' (L N:Nat) (k:LLI->Option R) (a:LLI):Option R:=
 k a
def f67.p0_e0 (L N:Nat) (k:LLI->Option R) (a:LLI):Option R:=
 f67.p0_e0' L N k a
def f67.b' (L N:Nat) (k:LLI->Option R) (b:Int->Int->LLM->LLI->Option R) (a:Graph):Option R:=
 b (a.moves.length:Int) (0:Int) a.moves ([]:LLI)
def f67.b (L N:Nat) (k:LLI->Option R) (a:Graph):Option R:=
 f67.b' L N k (fun c d e f=>f67.l0 L N (fun g=>f67.p0_e0 L N k g) L c d e f) a
def f67 (L N:Nat) (a:Graph):Option (LLI):=f67.b L N some a
def f67.ent (L N:Nat):=entDa [(.st 2)] (.one (.sl (.sl i64))) fun d=>f67 L N d.1
noncomputable def E67 (L N:Nat):Env:={P:=Tryz.prog,ty:=tyOf,Φ:=(Φ39 L N),inl:=inlT,live:=lives,liveX:=livesX,L:=L,dp:=none,prom:=promT,heal:=healT,ren:=renT}
noncomputable def f67.c0:Code:=loopAt 0 (codeOf Tryz.f67)
def f67.X0_e0 (κ:KX R):=fun a=>κ (.exit 0) (f67.T0_e0 a) (f67.H0_e0 a)
def f67.R0 (rec:KT R):=fun a b c d=>rec (f67.T0 a b c d) (f67.H0 a b c d)
theorem f67.s0_eq (L N:Nat) (κ:KX R) (rec:KT R) (a b:Int) (c:LLM) (d:LLI):
  evRd (E67 L N) (evCallI (E67 L N) 0 1000) 1000 67 21 0 f67.c0 κ rec (f67.T0 a b c d) (f67.H0 a b c d)
  =f67.s0 L N (f67.X0_e0 κ) (f67.R0 rec) a b c d:=by kernel_rfl
theorem f67.l0_eq (L N:Nat) (κ:KX R):∀(n:Nat) (a b:Int) (c:LLM) (d:LLI),
  evLp (E67 L N) (evCallI (E67 L N) 0 1000) 1000 67 21 0 f67.c0 κ n (f67.T0 a b c d) (f67.H0 a b c d)
  =f67.l0 L N (f67.X0_e0 κ) n a b c d:=by
 intro n
 induction n with
 |zero=>intros;rfl
 |succ n ih=>
  intro a b c d
  rw [evLp_succ,f67.s0_eq]
  delta f67.R0
  simp only [ih]
  rfl
theorem f67.p0_e0_eq (L N:Nat) (κ:AV->Option R) (a:LLI):
  (contAt (E67 L N) (evCallI (E67 L N) 0 1000) 1000 67 21 0 (codeOf Tryz.f67) (finK (E67 L N) 1000 Tryz.f67 (finC (.one (.sl (.sl i64))) κ))) (.exit 0) (f67.T0_e0 a) (f67.H0_e0 a)
  =f67.p0_e0 L N (fun a0=>κ (.tv (.sl (.sl i64)) a0)) a:=by kernel_rfl
theorem f67.b_eq (L N:Nat) (κ:AV->Option R) (a:Graph):
  evBody (E67 L N) (evCallI (E67 L N) 0 1000) 1000 67 Tryz.f67 [(.tv (.st 2) a)] [] [] (finC (.one (.sl (.sl i64))) κ)
  =f67.b L N (fun a0=>κ (.tv (.sl (.sl i64)) a0)) a:=by
 refine Eq.trans (b:=f67.b' L N (fun a0=>κ (.tv (.sl (.sl i64)) a0)) (fun c d e f=>evLp (E67 L N) (evCallI (E67 L N) 0 1000) 1000 67 21 0 f67.c0 (contAt (E67 L N) (evCallI (E67 L N) 0 1000) 1000 67 21 0 (codeOf Tryz.f67) (finK (E67 L N) 1000 Tryz.f67 (finC (.one (.sl (.sl i64))) κ))) L (f67.T0 c d e f) (f67.H0 c d e f)) a) (by kernel_rfl) ?_
 unfold f67.b
 simp only [f67.l0_eq]
 delta f67.X0_e0
 simp only [f67.p0_e0_eq]
theorem f67.ok (L N:Nat) (hΦ:TellsOk Tryz.prog ((Φ39 L N))):EntOk Tryz.prog 67 (f67.ent L N):=entDa_ok (E:=(E67 L N)) (dep:=1000) (f:=Tryz.f67) (sound_of hΦ) okP (callI_sound (sound_of hΦ) okP 0 1000) rfl fun d _ hy=>(f67.b_eq L N (unR (.one (.sl (.sl i64)))) d.1).trans (Eq.trans (b:=f67.b L N some d.1) (by kernel_rfl) hy)
def Φ67 (L N:Nat):Tells:=(addT (Φ39 L N) 67 (f67.ent L N))
theorem Φ67_ok (L N:Nat):TellsOk Tryz.prog (Φ67 L N):=addT_ok (Φ39_ok L N) (f67.ok L N (Φ39_ok L N))
def f36.s3' (L N:Nat) (k3_e6:LLI->Int->Int->LI->Int->Int->LM->Int->Int->LLM->LM->LLM->Option R) (rec3:LLI->Int->Int->LI->Int->Int->LM->Int->Int->LI->Int->Int->LLM->Int->Int->LM->LLM->Option R) (e:LLI) (f g:Int) (h:LI) (i j:Int) (k:LM) (l m:Int) (b:LI) (n a:Int) (o:LLM) (c q:Int) (d:LM) (p:LLM):Option R:=
 bif (decide (a<n)) then
  bif (decide (0≤a)&&decide (a<(b.length:Int))) then
   bif (decide (d.length+([(Move.mk c (listAt b (0:Int) a.toNat))]:LM).length≤lim)) then
    rec3 e f g h i j k l m b n (wi (a+(1:Int))) o c q (d++([(Move.mk c (listAt b (0:Int) a.toNat))]:LM)) p
   else none
  else none
 else k3_e6 e f g h i j k l m o d p
def f36.s3 (L N:Nat) (k3_e6:LLI->Int->Int->LI->Int->Int->LM->Int->Int->LLM->LM->LLM->Option R) (rec3:LLI->Int->Int->LI->Int->Int->LM->Int->Int->LI->Int->Int->LLM->Int->Int->LM->LLM->Option R) (a:LLI) (b c:Int) (d:LI) (e f:Int) (g:LM) (h i:Int) (j:LI) (k l:Int) (m:LLM) (n o:Int) (p:LM) (q:LLM):Option R:=
 f36.s3' L N k3_e6 rec3 a b c d e f g h i j k l m n o p q
def f36.l3 (L N:Nat) (k3_e6:LLI->Int->Int->LI->Int->Int->LM->Int->Int->LLM->LM->LLM->Option R):Nat->LLI->Int->Int->LI->Int->Int->LM->Int->Int->LI->Int->Int->LLM->Int->Int->LM->LLM->Option R
 |0,_,_,_,_,_,_,_,_,_,_,_,_,_,_,_,_,_=>none
 |n+1,a,b,c,d,e,f,g,h,i,j,k,l,m,o,p,q,r=>f36.s3 L N k3_e6 (f36.l3 L N k3_e6 n) a b c d e f g h i j k l m o p q r
def f36.T3 (a:LLI) (b c:Int) (d:LI) (e f:Int) (g:LM) (h i:Int) (j:LI) (k l:Int) (m:LLM) (n o:Int) (p:LM) (q:LLM):T:=mkT 79 [(1,(.ptr 1001 0)),(2,(.ptr 1002 0)),(3,(.tv (.sl (.sl i64)) a)),(4,(.ptr 1004 0)),(6,(.row 1022)),(10,(.ptr 1010 0)),(18,(.tv i64 b)),(19,(.tv i64 c)),(26,(.tv (.sl i64) d)),(27,(.tv i64 e)),(28,(.tv i64 f)),(41,(.tv (.sl (.st 0)) g)),(42,(.tv i64 h)),(43,(.tv i64 i)),(54,(.tv (.sl i64) j)),(55,(.tv i64 k)),(56,(.tv i64 l))]
def f36.H3 (f:LLI) (g h:Int) (i:LI) (j k:Int) (l:LM) (m n:Int) (o:LI) (p q:Int) (a:LLM) (b c:Int) (d:LM) (e:LLM):H:=[(1001,(.box [(.tv (.sl (.sl (.st 0))) a)])),(1002,(.box [.nil])),(1004,(.box [(.row 1900)])),(1010,(.box [(.tv i64 b),(.tv i64 c)])),(1022,(.row 63 (.st 0) d)),(1900,(.row 61 (.sl (.st 0)) e))]
def f36.T3_e6 (a:LLI) (b c:Int) (d:LI) (e f:Int) (g:LM) (h i:Int) (j:LLM) (k:LM) (l:LLM):T:=mkT 79 [(1,(.ptr 1001 0)),(2,(.ptr 1002 0)),(3,(.tv (.sl (.sl i64)) a)),(4,(.ptr 1004 0)),(6,(.row 1022)),(18,(.tv i64 b)),(19,(.tv i64 c)),(26,(.tv (.sl i64) d)),(27,(.tv i64 e)),(28,(.tv i64 f)),(41,(.tv (.sl (.st 0)) g)),(42,(.tv i64 h)),(43,(.tv i64 i))]
def f36.H3_e6 (d:LLI) (e f:Int) (g:LI) (h i:Int) (j:LM) (k l:Int) (a:LLM) (b:LM) (c:LLM):H:=[(1001,(.box [(.tv (.sl (.sl (.st 0))) a)])),(1002,(.box [.nil])),(1004,(.box [(.row 1900)])),(1022,(.row 63 (.st 0) b)),(1900,(.row 61 (.sl (.st 0)) c))]
def f36.p3_e6' (L N:Nat) (k2_e4:LLI->Int->Int->LI->Int->Int->LLM->LM->LLM->Option R) (rec2:LLI->Int->Int->LI->Int->Int->LM->Int->Int->LLM->LM->LLM->Option R) (a:LLI) (b c:Int) (d:LI) (e f:Int) (g:LM) (h i:Int) (j:LLM) (k:LM) (l:LLM):Option R:=
 rec2 a b c d e f g h (wi (i+(1:Int))) j k l
def f36.p3_e6 (L N:Nat) (k2_e4:LLI->Int->Int->LI->Int->Int->LLM->LM->LLM->Option R) (rec2:LLI->Int->Int->LI->Int->Int->LM->Int->Int->LLM->LM->LLM->Option R) (a:LLI) (b c:Int) (d:LI) (e f:Int) (g:LM) (h i:Int) (j:LLM) (k:LM) (l:LLM):Option R:=
 f36.p3_e6' L N k2_e4 rec2 a b c d e f g h i j k l
def f36.s2' (L N:Nat) (k2_e4:LLI->Int->Int->LI->Int->Int->LLM->LM->LLM->Option R) (rec2:LLI->Int->Int->LI->Int->Int->LM->Int->Int->LLM->LM->LLM->Option R) (m:LLI->Int->Int->LI->Int->Int->LM->Int->Int->LI->Int->Int->LLM->Int->Int->LM->LLM->Option R) (c:LLI) (d e:Int) (f:LI) (g h:Int) (b:LM) (i a:Int) (j:LLM) (k:LM) (l:LLM):Option R:=
 bif (decide (a<i)) then
  bif (decide (0≤a)&&decide (a<(b.length:Int))) then
   bif ((listAt b (Ty.dflt (.st 0)) a.toNat).act !=(0:Int)) then
    bif (decide (0≤(listAt b (Ty.dflt (.st 0)) a.toNat).to)&&decide ((listAt b (Ty.dflt (.st 0)) a.toNat).to<(c.length:Int))) then
     m c d e f g h b i a (listAt c [] ((listAt b (Ty.dflt (.st 0)) a.toNat).to).toNat) ((listAt c [] ((listAt b (Ty.dflt (.st 0)) a.toNat).to).toNat).length:Int) (0:Int) j ((listAt b (Ty.dflt (.st 0)) a.toNat).act) ((listAt b (Ty.dflt (.st 0)) a.toNat).to) k l
    else none
   else rec2 c d e f g h b i (wi (a+(1:Int))) j k l
  else none
 else k2_e4 c d e f g h j k l
def f36.s2 (L N:Nat) (k2_e4:LLI->Int->Int->LI->Int->Int->LLM->LM->LLM->Option R) (rec2:LLI->Int->Int->LI->Int->Int->LM->Int->Int->LLM->LM->LLM->Option R) (a:LLI) (b c:Int) (d:LI) (e f:Int) (g:LM) (h i:Int) (j:LLM) (k:LM) (l:LLM):Option R:=
 f36.s2' L N k2_e4 rec2 (fun m n o p q r s t u v w x y z A B C=>f36.l3 L N (fun D E F G I J K M O P Q S=>f36.p3_e6 L N k2_e4 rec2 D E F G I J K M O P Q S) L m n o p q r s t u v w x y z A B C) a b c d e f g h i j k l
def f36.l2 (L N:Nat) (k2_e4:LLI->Int->Int->LI->Int->Int->LLM->LM->LLM->Option R):Nat->LLI->Int->Int->LI->Int->Int->LM->Int->Int->LLM->LM->LLM->Option R
 |0,_,_,_,_,_,_,_,_,_,_,_,_=>none
 |n+1,a,b,c,d,e,f,g,h,i,j,k,l=>f36.s2 L N k2_e4 (f36.l2 L N k2_e4 n) a b c d e f g h i j k l
def f36.T2 (a:LLI) (b c:Int) (d:LI) (e f:Int) (g:LM) (h i:Int) (j:LLM) (k:LM) (l:LLM):T:=mkT 79 [(1,(.ptr 1001 0)),(2,(.ptr 1002 0)),(3,(.tv (.sl (.sl i64)) a)),(4,(.ptr 1004 0)),(6,(.row 1022)),(18,(.tv i64 b)),(19,(.tv i64 c)),(26,(.tv (.sl i64) d)),(27,(.tv i64 e)),(28,(.tv i64 f)),(41,(.tv (.sl (.st 0)) g)),(42,(.tv i64 h)),(43,(.tv i64 i))]
def f36.H2 (d:LLI) (e f:Int) (g:LI) (h i:Int) (j:LM) (k l:Int) (a:LLM) (b:LM) (c:LLM):H:=[(1001,(.box [(.tv (.sl (.sl (.st 0))) a)])),(1002,(.box [.nil])),(1004,(.box [(.row 1900)])),(1022,(.row 63 (.st 0) b)),(1900,(.row 61 (.sl (.st 0)) c))]
def f36.T2_e4 (a:LLI) (b c:Int) (d:LI) (e f:Int) (g:LLM) (h:LM) (i:LLM):T:=mkT 79 [(1,(.ptr 1001 0)),(2,(.ptr 1002 0)),(3,(.tv (.sl (.sl i64)) a)),(4,(.ptr 1004 0)),(6,(.row 1022)),(18,(.tv i64 b)),(19,(.tv i64 c)),(26,(.tv (.sl i64) d)),(27,(.tv i64 e)),(28,(.tv i64 f))]
def f36.H2_e4 (d:LLI) (e f:Int) (g:LI) (h i:Int) (a:LLM) (b:LM) (c:LLM):H:=[(1001,(.box [(.tv (.sl (.sl (.st 0))) a)])),(1002,(.box [.nil])),(1004,(.box [(.row 1900)])),(1022,(.row 63 (.st 0) b)),(1900,(.row 61 (.sl (.st 0)) c))]
def f36.p2_e4' (L N:Nat) (k1_e2:LLI->Int->Int->LLM->LM->LLM->Option R) (rec1:LLI->Int->Int->LI->Int->Int->LLM->LM->LLM->Option R) (a:LLI) (b c:Int) (d:LI) (e f:Int) (g:LLM) (h:LM) (i:LLM):Option R:=
 rec1 a b c d e (wi (f+(1:Int))) g h i
def f36.p2_e4 (L N:Nat) (k1_e2:LLI->Int->Int->LLM->LM->LLM->Option R) (rec1:LLI->Int->Int->LI->Int->Int->LLM->LM->LLM->Option R) (a:LLI) (b c:Int) (d:LI) (e f:Int) (g:LLM) (h:LM) (i:LLM):Option R:=
 f36.p2_e4' L N k1_e2 rec1 a b c d e f g h i
def f36.s1' (L N:Nat) (k1_e2:LLI->Int->Int->LLM->LM->LLM->Option R) (rec1:LLI->Int->Int->LI->Int->Int->LLM->LM->LLM->Option R) (j:LLI->Int->Int->LI->Int->Int->LM->Int->Int->LLM->LM->LLM->Option R) (e:LLI) (f g:Int) (b:LI) (h a:Int) (c:LLM) (d:LM) (i:LLM):Option R:=
 bif (decide (a<h)) then
  bif (decide (0≤a)&&decide (a<(b.length:Int))) then
   bif (decide (d.length+([(Move.mk (0:Int) (listAt b (0:Int) a.toNat))]:LM).length≤lim)) then
    bif (decide (0≤(listAt b (0:Int) a.toNat))&&decide ((listAt b (0:Int) a.toNat)<(c.length:Int))) then
     j e f g b h a (listAt c [] (listAt b (0:Int) a.toNat).toNat) ((listAt c [] (listAt b (0:Int) a.toNat).toNat).length:Int) (0:Int) c (d++([(Move.mk (0:Int) (listAt b (0:Int) a.toNat))]:LM)) i
    else none
   else none
  else none
 else k1_e2 e f g c d i
def f36.s1 (L N:Nat) (k1_e2:LLI->Int->Int->LLM->LM->LLM->Option R) (rec1:LLI->Int->Int->LI->Int->Int->LLM->LM->LLM->Option R) (a:LLI) (b c:Int) (d:LI) (e f:Int) (g:LLM) (h:LM) (i:LLM):Option R:=
 f36.s1' L N k1_e2 rec1 (fun j k l m n o p q r s t u=>f36.l2 L N (fun v w x y z A B C D=>f36.p2_e4 L N k1_e2 rec1 v w x y z A B C D) L j k l m n o p q r s t u) a b c d e f g h i
def f36.l1 (L N:Nat) (k1_e2:LLI->Int->Int->LLM->LM->LLM->Option R):Nat->LLI->Int->Int->LI->Int->Int->LLM->LM->LLM->Option R
 |0,_,_,_,_,_,_,_,_,_=>none
 |n+1,a,b,c,d,e,f,g,h,i=>f36.s1 L N k1_e2 (f36.l1 L N k1_e2 n) a b c d e f g h i
def f36.T1 (a:LLI) (b c:Int) (d:LI) (e f:Int) (g:LLM) (h:LM) (i:LLM):T:=mkT 79 [(1,(.ptr 1001 0)),(2,(.ptr 1002 0)),(3,(.tv (.sl (.sl i64)) a)),(4,(.ptr 1004 0)),(6,(.row 1022)),(18,(.tv i64 b)),(19,(.tv i64 c)),(26,(.tv (.sl i64) d)),(27,(.tv i64 e)),(28,(.tv i64 f))]
def f36.H1 (d:LLI) (e f:Int) (g:LI) (h i:Int) (a:LLM) (b:LM) (c:LLM):H:=[(1001,(.box [(.tv (.sl (.sl (.st 0))) a)])),(1002,(.box [.nil])),(1004,(.box [(.row 1900)])),(1022,(.row 63 (.st 0) b)),(1900,(.row 61 (.sl (.st 0)) c))]
def f36.T1_e2 (a:LLI) (b c:Int) (d:LLM) (e:LM) (f:LLM):T:=mkT 79 [(1,(.ptr 1001 0)),(2,(.ptr 1002 0)),(3,(.tv (.sl (.sl i64)) a)),(4,(.ptr 1004 0)),(6,(.row 1022)),(18,(.tv i64 b)),(19,(.tv i64 c))]
def f36.H1_e2 (d:LLI) (e f:Int) (a:LLM) (b:LM) (c:LLM):H:=[(1001,(.box [(.tv (.sl (.sl (.st 0))) a)])),(1002,(.box [.nil])),(1004,(.box [(.row 1900)])),(1022,(.row 63 (.st 0) b)),(1900,(.row 61 (.sl (.st 0)) c))]
def f36.p1_e2' (L N:Nat) (k0_e0:LLM->Option R) (rec0:LLI->Int->Int->LLM->LLM->Option R) (c:LLI) (d e:Int) (f:LLM) (a:LM) (b:LLM):Option R:=
 ((fsortM a)).bind fun g=>
 bif (decide (b.length+([(tidyM a)]:LLM).length≤lim)) then
  rec0 c d (wi (e+(1:Int))) f (b++([(tidyM a)]:LLM))
 else none
def f36.p1_e2 (L N:Nat) (k0_e0:LLM->Option R) (rec0:LLI->Int->Int->LLM->LLM->Option R) (a:LLI) (b c:Int) (d:LLM) (e:LM) (f:LLM):Option R:=
 f36.p1_e2' L N k0_e0 rec0 a b c d e f
def f36.s0' (L N:Nat) (k0_e0:LLM->Option R) (rec0:LLI->Int->Int->LLM->LLM->Option R) (e:LLI->Int->Int->LI->Int->Int->LLM->LM->LLM->Option R) (b:LLI) (c a:Int) (f d:LLM):Option R:=
 bif (decide (a<c)) then
  bif (decide (0≤a)&&decide (a<(b.length:Int))) then
   e b c a (listAt b [] a.toNat) ((listAt b [] a.toNat).length:Int) (0:Int) f ([]:LM) d
  else none
 else k0_e0 d
def f36.s0 (L N:Nat) (k0_e0:LLM->Option R) (rec0:LLI->Int->Int->LLM->LLM->Option R) (a:LLI) (b c:Int) (d e:LLM):Option R:=
 f36.s0' L N k0_e0 rec0 (fun f g h i j k l m n=>f36.l1 L N (fun o p q r s t=>f36.p1_e2 L N k0_e0 rec0 o p q r s t) L f g h i j k l m n) a b c d e
def f36.l0 (L N:Nat) (k0_e0:LLM->Option R):Nat->LLI->Int->Int->LLM->LLM->Option R
 |0,_,_,_,_,_=>none
 |n+1,a,b,c,d,e=>f36.s0 L N k0_e0 (f36.l0 L N k0_e0 n) a b c d e
def f36.T0 (a:LLI) (b c:Int) (d e:LLM):T:=mkT 79 [(1,(.ptr 1001 0)),(2,(.ptr 1002 0)),(3,(.tv (.sl (.sl i64)) a)),(4,(.ptr 1004 0)),(18,(.tv i64 b)),(19,(.tv i64 c))]
def f36.H0 (c:LLI) (d e:Int) (a b:LLM):H:=[(1001,(.box [(.tv (.sl (.sl (.st 0))) a)])),(1002,(.box [.nil])),(1004,(.box [(.row 1900)])),(1900,(.row 61 (.sl (.st 0)) b))]
def f36.T0_e0 (a:LLM):T:=mkT 79 [(2,(.ptr 1002 0)),(4,(.ptr 1004 0))]
def f36.H0_e0 (a:LLM):H:=[(1002,(.box [.nil])),(1004,(.box [(.row 1900)])),(1900,(.row 61 (.sl (.st 0)) a))]
def f36.p0_e0' (L N:Nat) (k:Graph->Option R) (a:LLM):Option R:=
 k (Graph.mk a)
def f36.p0_e0 (L N:Nat) (k:Graph->Option R) (a:LLM):Option R:=
 f36.p0_e0' L N k a
def f36.b' (L N:Nat) (k:Graph->Option R) (b:LLI->Int->Int->LLM->LLM->Option R) (a:Graph):Option R:=
 (f67 L N (Graph.mk a.moves)).bind fun c=>
 b c (a.moves.length:Int) (0:Int) a.moves ([]:LLM)
def f36.b (L N:Nat) (k:Graph->Option R) (a:Graph):Option R:=
 f36.b' L N k (fun c d e f g=>f36.l0 L N (fun h=>f36.p0_e0 L N k h) L c d e f g) a
def f36 (L N:Nat) (a:Graph):Option (Graph):=f36.b L N some a
def f36.ent (L N:Nat):=entDa [(.st 2)] (.one (.st 2)) fun d=>f36 L N d.1
noncomputable def E36 (L N:Nat):Env:={P:=Tryz.prog,ty:=tyOf,Φ:=(Φ67 L N),inl:=inlT,live:=lives,liveX:=livesX,L:=L,dp:=none,prom:=promT,heal:=healT,ren:=renT}
noncomputable def f36.c0:Code:=loopAt 0 (codeOf Tryz.f36)
noncomputable def f36.c1:Code:=loopAt 2 f36.c0
noncomputable def f36.c2:Code:=loopAt 4 f36.c1
noncomputable def f36.c3:Code:=loopAt 6 f36.c2
def f36.X3_e6 (κ:KX R):=fun a b c d e f g h i j k l=>κ (.exit 6) (f36.T3_e6 a b c d e f g h i j k l) (f36.H3_e6 a b c d e f g h i j k l)
def f36.R3 (rec:KT R):=fun a b c d e f g h i j k l m n o p q=>rec (f36.T3 a b c d e f g h i j k l m n o p q) (f36.H3 a b c d e f g h i j k l m n o p q)
theorem f36.s3_eq (L N:Nat) (κ:KX R) (rec:KT R) (a:LLI) (b c:Int) (d:LI) (e f:Int) (g:LM) (h i:Int) (j:LI) (k l:Int) (m:LLM) (n o:Int) (p:LM) (q:LLM):
  evRd (E36 L N) (evCallI (E36 L N) 0 1000) 1000 36 79 6 f36.c3 κ rec (f36.T3 a b c d e f g h i j k l m n o p q) (f36.H3 a b c d e f g h i j k l m n o p q)
  =f36.s3 L N (f36.X3_e6 κ) (f36.R3 rec) a b c d e f g h i j k l m n o p q:=by kernel_rfl
theorem f36.l3_eq (L N:Nat) (κ:KX R):∀(n:Nat) (a:LLI) (b c:Int) (d:LI) (e f:Int) (g:LM) (h i:Int) (j:LI) (k l:Int) (m:LLM) (o p:Int) (q:LM) (r:LLM),
  evLp (E36 L N) (evCallI (E36 L N) 0 1000) 1000 36 79 6 f36.c3 κ n (f36.T3 a b c d e f g h i j k l m o p q r) (f36.H3 a b c d e f g h i j k l m o p q r)
  =f36.l3 L N (f36.X3_e6 κ) n a b c d e f g h i j k l m o p q r:=by
 intro n
 induction n with
 |zero=>intros;rfl
 |succ n ih=>
  intro a b c d e f g h i j k l m o p q r
  rw [evLp_succ,f36.s3_eq]
  delta f36.R3
  simp only [ih]
  rfl
def f36.X2_e4 (κ:KX R):=fun a b c d e f g h i=>κ (.exit 4) (f36.T2_e4 a b c d e f g h i) (f36.H2_e4 a b c d e f g h i)
def f36.R2 (rec:KT R):=fun a b c d e f g h i j k l=>rec (f36.T2 a b c d e f g h i j k l) (f36.H2 a b c d e f g h i j k l)
theorem f36.p3_e6_eq (L N:Nat) (κ:KX R) (rec:KT R) (a:LLI) (b c:Int) (d:LI) (e f:Int) (g:LM) (h i:Int) (j:LLM) (k:LM) (l:LLM):
  (contAt (E36 L N) (evCallI (E36 L N) 0 1000) 1000 36 79 6 f36.c2 (rdK (E36 L N) 1000 36 79 4 κ rec)) (.exit 6) (f36.T3_e6 a b c d e f g h i j k l) (f36.H3_e6 a b c d e f g h i j k l)
  =f36.p3_e6 L N (f36.X2_e4 κ) (f36.R2 rec) a b c d e f g h i j k l:=by kernel_rfl
theorem f36.s2_eq (L N:Nat) (κ:KX R) (rec:KT R) (a:LLI) (c d:Int) (e:LI) (f g:Int) (h:LM) (i j:Int) (k:LLM) (l:LM) (m:LLM):
  evRd (E36 L N) (evCallI (E36 L N) 0 1000) 1000 36 79 4 f36.c2 κ rec (f36.T2 a c d e f g h i j k l m) (f36.H2 a c d e f g h i j k l m)
  =f36.s2 L N (f36.X2_e4 κ) (f36.R2 rec) a c d e f g h i j k l m:=by
 refine Eq.trans (b:=f36.s2' L N (f36.X2_e4 κ) (f36.R2 rec) (fun n o p q r s t u v w x y z A B C D=>evLp (E36 L N) (evCallI (E36 L N) 0 1000) 1000 36 79 6 f36.c3 (contAt (E36 L N) (evCallI (E36 L N) 0 1000) 1000 36 79 6 f36.c2 (rdK (E36 L N) 1000 36 79 4 κ rec)) L (f36.T3 n o p q r s t u v w x y z A B C D) (f36.H3 n o p q r s t u v w x y z A B C D)) a c d e f g h i j k l m) (by kernel_rfl) ?_
 unfold f36.s2
 simp only [f36.l3_eq]
 delta f36.X3_e6
 simp only [f36.p3_e6_eq]
theorem f36.l2_eq (L N:Nat) (κ:KX R):∀(n:Nat) (a:LLI) (b c:Int) (d:LI) (e f:Int) (g:LM) (h i:Int) (j:LLM) (k:LM) (l:LLM),
  evLp (E36 L N) (evCallI (E36 L N) 0 1000) 1000 36 79 4 f36.c2 κ n (f36.T2 a b c d e f g h i j k l) (f36.H2 a b c d e f g h i j k l)
  =f36.l2 L N (f36.X2_e4 κ) n a b c d e f g h i j k l:=by
 intro n
 induction n with
 |zero=>intros;rfl
 |succ n ih=>
  intro a b c d e f g h i j k l
  rw [evLp_succ,f36.s2_eq]
  delta f36.R2
  simp only [ih]
  rfl
def f36.X1_e2 (κ:KX R):=fun a b c d e f=>κ (.exit 2) (f36.T1_e2 a b c d e f) (f36.H1_e2 a b c d e f)
def f36.R1 (rec:KT R):=fun a b c d e f g h i=>rec (f36.T1 a b c d e f g h i) (f36.H1 a b c d e f g h i)
theorem f36.p2_e4_eq (L N:Nat) (κ:KX R) (rec:KT R) (a:LLI) (b c:Int) (d:LI) (e f:Int) (g:LLM) (h:LM) (i:LLM):
  (contAt (E36 L N) (evCallI (E36 L N) 0 1000) 1000 36 79 4 f36.c1 (rdK (E36 L N) 1000 36 79 2 κ rec)) (.exit 4) (f36.T2_e4 a b c d e f g h i) (f36.H2_e4 a b c d e f g h i)
  =f36.p2_e4 L N (f36.X1_e2 κ) (f36.R1 rec) a b c d e f g h i:=by kernel_rfl
theorem f36.s1_eq (L N:Nat) (κ:KX R) (rec:KT R) (a:LLI) (c d:Int) (e:LI) (f g:Int) (h:LLM) (i:LM) (j:LLM):
  evRd (E36 L N) (evCallI (E36 L N) 0 1000) 1000 36 79 2 f36.c1 κ rec (f36.T1 a c d e f g h i j) (f36.H1 a c d e f g h i j)
  =f36.s1 L N (f36.X1_e2 κ) (f36.R1 rec) a c d e f g h i j:=by
 refine Eq.trans (b:=f36.s1' L N (f36.X1_e2 κ) (f36.R1 rec) (fun k l m n o p q r s t u v=>evLp (E36 L N) (evCallI (E36 L N) 0 1000) 1000 36 79 4 f36.c2 (contAt (E36 L N) (evCallI (E36 L N) 0 1000) 1000 36 79 4 f36.c1 (rdK (E36 L N) 1000 36 79 2 κ rec)) L (f36.T2 k l m n o p q r s t u v) (f36.H2 k l m n o p q r s t u v)) a c d e f g h i j) (by kernel_rfl) ?_
 unfold f36.s1
 simp only [f36.l2_eq]
 delta f36.X2_e4
 simp only [f36.p2_e4_eq]
theorem f36.l1_eq (L N:Nat) (κ:KX R):∀(n:Nat) (a:LLI) (b c:Int) (d:LI) (e f:Int) (g:LLM) (h:LM) (i:LLM),
  evLp (E36 L N) (evCallI (E36 L N) 0 1000) 1000 36 79 2 f36.c1 κ n (f36.T1 a b c d e f g h i) (f36.H1 a b c d e f g h i)
  =f36.l1 L N (f36.X1_e2 κ) n a b c d e f g h i:=by
 intro n
 induction n with
 |zero=>intros;rfl
 |succ n ih=>
  intro a b c d e f g h i
  rw [evLp_succ,f36.s1_eq]
  delta f36.R1
  simp only [ih]
  rfl
def f36.X0_e0 (κ:KX R):=fun a=>κ (.exit 0) (f36.T0_e0 a) (f36.H0_e0 a)
def f36.R0 (rec:KT R):=fun a b c d e=>rec (f36.T0 a b c d e) (f36.H0 a b c d e)
theorem f36.p1_e2_eq (L N:Nat) (κ:KX R) (rec:KT R) (a:LLI) (b c:Int) (d:LLM) (e:LM) (f:LLM):
  (contAt (E36 L N) (evCallI (E36 L N) 0 1000) 1000 36 79 2 f36.c0 (rdK (E36 L N) 1000 36 79 0 κ rec)) (.exit 2) (f36.T1_e2 a b c d e f) (f36.H1_e2 a b c d e f)
  =f36.p1_e2 L N (f36.X0_e0 κ) (f36.R0 rec) a b c d e f:=by kernel_rfl
theorem f36.s0_eq (L N:Nat) (κ:KX R) (rec:KT R) (a:LLI) (c d:Int) (e f:LLM):
  evRd (E36 L N) (evCallI (E36 L N) 0 1000) 1000 36 79 0 f36.c0 κ rec (f36.T0 a c d e f) (f36.H0 a c d e f)
  =f36.s0 L N (f36.X0_e0 κ) (f36.R0 rec) a c d e f:=by
 refine Eq.trans (b:=f36.s0' L N (f36.X0_e0 κ) (f36.R0 rec) (fun g h i j k l m n o=>evLp (E36 L N) (evCallI (E36 L N) 0 1000) 1000 36 79 2 f36.c1 (contAt (E36 L N) (evCallI (E36 L N) 0 1000) 1000 36 79 2 f36.c0 (rdK (E36 L N) 1000 36 79 0 κ rec)) L (f36.T1 g h i j k l m n o) (f36.H1 g h i j k l m n o)) a c d e f) (by kernel_rfl) ?_
 unfold f36.s0
 simp only [f36.l1_eq]
 delta f36.X1_e2
 simp only [f36.p1_e2_eq]
theorem f36.l0_eq (L N:Nat) (κ:KX R):∀(n:Nat) (a:LLI) (b c:Int) (d e:LLM),
  evLp (E36 L N) (evCallI (E36 L N) 0 1000) 1000 36 79 0 f36.c0 κ n (f36.T0 a b c d e) (f36.H0 a b c d e)
  =f36.l0 L N (f36.X0_e0 κ) n a b c d e:=by
 intro n
 induction n with
 |zero=>intros;rfl
 |succ n ih=>
  intro a b c d e
  rw [evLp_succ,f36.s0_eq]
  delta f36.R0
  simp only [ih]
  rfl
theorem f36.p0_e0_eq (L N:Nat) (κ:AV->Option R) (a:LLM):
  (contAt (E36 L N) (evCallI (E36 L N) 0 1000) 1000 36 79 0 (codeOf Tryz.f36) (finK (E36 L N) 1000 Tryz.f36 (finC (.one (.st 2)) κ))) (.exit 0) (f36.T0_e0 a) (f36.H0_e0 a)
  =f36.p0_e0 L N (fun a0=>κ (.tv (.st 2) a0)) a:=by kernel_rfl
theorem f36.b_eq (L N:Nat) (κ:AV->Option R) (a:Graph):
  evBody (E36 L N) (evCallI (E36 L N) 0 1000) 1000 36 Tryz.f36 [(.tv (.st 2) a)] [] [] (finC (.one (.st 2)) κ)
  =f36.b L N (fun a0=>κ (.tv (.st 2) a0)) a:=by
 refine Eq.trans (b:=f36.b' L N (fun a0=>κ (.tv (.st 2) a0)) (fun c d e f g=>evLp (E36 L N) (evCallI (E36 L N) 0 1000) 1000 36 79 0 f36.c0 (contAt (E36 L N) (evCallI (E36 L N) 0 1000) 1000 36 79 0 (codeOf Tryz.f36) (finK (E36 L N) 1000 Tryz.f36 (finC (.one (.st 2)) κ))) L (f36.T0 c d e f g) (f36.H0 c d e f g)) a) (by kernel_rfl) ?_
 unfold f36.b
 simp only [f36.l0_eq]
 delta f36.X0_e0
 simp only [f36.p0_e0_eq]
theorem f36.ok (L N:Nat) (hΦ:TellsOk Tryz.prog ((Φ67 L N))):EntOk Tryz.prog 36 (f36.ent L N):=entDa_ok (E:=(E36 L N)) (dep:=1000) (f:=Tryz.f36) (sound_of hΦ) okP (callI_sound (sound_of hΦ) okP 0 1000) rfl fun d _ hy=>(f36.b_eq L N (unR (.one (.st 2))) d.1).trans (Eq.trans (b:=f36.b L N some d.1) (by kernel_rfl) hy)
def Φ36 (L N:Nat):Tells:=(addT (Φ67 L N) 36 (f36.ent L N))
theorem Φ36_ok (L N:Nat):TellsOk Tryz.prog (Φ36 L N):=addT_ok (Φ67_ok L N) (f36.ok L N (Φ67_ok L N))
def f146.s0' (L N:Nat) (k0_e0:Option R) (k0_r:Bool->Option R) (rec0:LI->LI->Int->Int->Option R) (b c:LI) (d a:Int):Option R:=
 bif (decide (a<d)) then
  bif (decide (0≤a)&&decide (a<(b.length:Int))) then
   bif (decide (0≤a)&&decide (a<(c.length:Int))) then
    bif ((listAt b (0:Int) a.toNat) !=(listAt c (0:Int) a.toNat)) then
     k0_r false
    else rec0 b c d (wi (a+(1:Int)))
   else none
  else none
 else k0_e0
def f146.s0 (L N:Nat) (k0_e0:Option R) (k0_r:Bool->Option R) (rec0:LI->LI->Int->Int->Option R) (a b:LI) (c d:Int):Option R:=
 f146.s0' L N k0_e0 k0_r rec0 a b c d
def f146.l0 (L N:Nat) (k0_e0:Option R) (k0_r:Bool->Option R):Nat->LI->LI->Int->Int->Option R
 |0,_,_,_,_=>none
 |n+1,a,b,c,d=>f146.s0 L N k0_e0 k0_r (f146.l0 L N k0_e0 k0_r n) a b c d
def f146.T0 (a b:LI) (c d:Int):T:=mkT 26 [(0,(.tv (.sl i64) a)),(1,(.tv (.sl i64) b)),(12,(.tv i64 c)),(13,(.tv i64 d))]
def f146.H0 (a b:LI) (c d:Int):H:=[]
def f146.T0_e0:T:=mkT 26 []
def f146.H0_e0:H:=[]
def f146.T0_r (a:Bool):T:=mkT 26 [(4,(.tv .bool a))]
def f146.H0_r (a:Bool):H:=[]
def f146.p0_e0' (L N:Nat) (k:Bool->Option R):Option R:=
 k true
def f146.p0_e0 (L N:Nat) (k:Bool->Option R):Option R:=
 f146.p0_e0' L N k
def f146.p0_r' (L N:Nat) (k:Bool->Option R) (a:Bool):Option R:=
 k a
def f146.p0_r (L N:Nat) (k:Bool->Option R) (a:Bool):Option R:=
 f146.p0_r' L N k a
def f146.b' (L N:Nat) (k:Bool->Option R) (c:LI->LI->Int->Int->Option R) (a b:LI):Option R:=
 bif ((a.length:Int) !=(b.length:Int)) then
  k false
 else c a b (a.length:Int) (0:Int)
def f146.b (L N:Nat) (k:Bool->Option R) (a c:LI):Option R:=
 f146.b' L N k (fun d e f g=>f146.l0 L N (f146.p0_e0 L N k) (fun h=>f146.p0_r L N k h) L d e f g) a c
def f146 (L N:Nat) (a c:LI):Option (Bool):=f146.b L N some a c
def f146.ent (L N:Nat):=entRo [(.sl i64),(.sl i64)] (.one .bool) fun d=>f146 L N d.1 d.2.1
noncomputable def E146 (L N:Nat):Env:={P:=Tryz.prog,ty:=tyOf,Φ:=(Φ36 L N),inl:=inlT,live:=lives,liveX:=livesX,L:=L,dp:=none,prom:=promT,heal:=healT,ren:=renT}
noncomputable def f146.c0:Code:=loopAt 0 (codeOf Tryz.f146)
def f146.X0_e0 (κ:KX R):=κ (.exit 0) f146.T0_e0 f146.H0_e0
def f146.X0_r (κ:KX R):=fun a=>κ .ret (f146.T0_r a) (f146.H0_r a)
def f146.R0 (rec:KT R):=fun a b c d=>rec (f146.T0 a b c d) (f146.H0 a b c d)
theorem f146.s0_eq (L N:Nat) (κ:KX R) (rec:KT R) (a b:LI) (c d:Int):
  evRd (E146 L N) (evCallI (E146 L N) 0 1000) 1000 146 26 0 f146.c0 κ rec (f146.T0 a b c d) (f146.H0 a b c d)
  =f146.s0 L N (f146.X0_e0 κ) (f146.X0_r κ) (f146.R0 rec) a b c d:=by kernel_rfl
theorem f146.l0_eq (L N:Nat) (κ:KX R):∀(n:Nat) (a b:LI) (c d:Int),
  evLp (E146 L N) (evCallI (E146 L N) 0 1000) 1000 146 26 0 f146.c0 κ n (f146.T0 a b c d) (f146.H0 a b c d)
  =f146.l0 L N (f146.X0_e0 κ) (f146.X0_r κ) n a b c d:=by
 intro n
 induction n with
 |zero=>intros;rfl
 |succ n ih=>
  intro a b c d
  rw [evLp_succ,f146.s0_eq]
  delta f146.R0
  simp only [ih]
  rfl
theorem f146.p0_e0_eq (L N:Nat) (κ:AV->Option R):
  (contAt (E146 L N) (evCallI (E146 L N) 0 1000) 1000 146 26 0 (codeOf Tryz.f146) (finK (E146 L N) 1000 Tryz.f146 (finC (.one .bool) κ))) (.exit 0) f146.T0_e0 f146.H0_e0
  =f146.p0_e0 L N (fun a0=>κ (.tv .bool a0)):=by kernel_rfl
theorem f146.p0_r_eq (L N:Nat) (κ:AV->Option R) (a:Bool):
  (contAt (E146 L N) (evCallI (E146 L N) 0 1000) 1000 146 26 0 (codeOf Tryz.f146) (finK (E146 L N) 1000 Tryz.f146 (finC (.one .bool) κ))) .ret (f146.T0_r a) (f146.H0_r a)
  =f146.p0_r L N (fun a0=>κ (.tv .bool a0)) a:=by kernel_rfl
theorem f146.b_eq (L N:Nat) (κ:AV->Option R) (a c:LI):
  evBody (E146 L N) (evCallI (E146 L N) 0 1000) 1000 146 Tryz.f146 [(.tv (.sl i64) a),(.tv (.sl i64) c)] [] [] (finC (.one .bool) κ)
  =f146.b L N (fun a0=>κ (.tv .bool a0)) a c:=by
 refine Eq.trans (b:=f146.b' L N (fun a0=>κ (.tv .bool a0)) (fun d e f g=>evLp (E146 L N) (evCallI (E146 L N) 0 1000) 1000 146 26 0 f146.c0 (contAt (E146 L N) (evCallI (E146 L N) 0 1000) 1000 146 26 0 (codeOf Tryz.f146) (finK (E146 L N) 1000 Tryz.f146 (finC (.one .bool) κ))) L (f146.T0 d e f g) (f146.H0 d e f g)) a c) (by kernel_rfl) ?_
 unfold f146.b
 simp only [f146.l0_eq]
 delta f146.X0_e0 f146.X0_r
 simp only [f146.p0_e0_eq,f146.p0_r_eq]
theorem f146.ok (L N:Nat) (hΦ:TellsOk Tryz.prog ((Φ36 L N))):EntOk Tryz.prog 146 (f146.ent L N):=entRo_ok (E:=(E146 L N)) (dep:=1000) (f:=Tryz.f146) (sound_of hΦ) okP (callI_sound (sound_of hΦ) okP 0 1000) rfl rfl fun d _ hy=>(f146.b_eq L N (unR (.one .bool)) d.1 d.2.1).trans (Eq.trans (b:=f146.b L N some d.1 d.2.1) (by kernel_rfl) hy)
def Φ146 (L N:Nat):Tells:=(addT (Φ36 L N) 146 (f146.ent L N))
theorem Φ146_ok (L N:Nat):TellsOk Tryz.prog (Φ146 L N):=addT_ok (Φ36_ok L N) (f146.ok L N (Φ36_ok L N))
def f185.s0' (L N:Nat) (k0_e0:Option R) (k0_r:Bool->Option R) (rec0:LM->LM->Int->Int->Option R) (b c:LM) (d a:Int):Option R:=
 bif (decide (a<d)) then
  bif (decide (0≤a)&&decide (a<(b.length:Int))) then
   bif (decide (0≤a)&&decide (a<(c.length:Int))) then
    bif (!(Move.eqb (listAt b (Ty.dflt (.st 0)) a.toNat) (listAt c (Ty.dflt (.st 0)) a.toNat))) then
     k0_r false
    else rec0 b c d (wi (a+(1:Int)))
   else none
  else none
 else k0_e0
def f185.s0 (L N:Nat) (k0_e0:Option R) (k0_r:Bool->Option R) (rec0:LM->LM->Int->Int->Option R) (a b:LM) (c d:Int):Option R:=
 f185.s0' L N k0_e0 k0_r rec0 a b c d
def f185.l0 (L N:Nat) (k0_e0:Option R) (k0_r:Bool->Option R):Nat->LM->LM->Int->Int->Option R
 |0,_,_,_,_=>none
 |n+1,a,b,c,d=>f185.s0 L N k0_e0 k0_r (f185.l0 L N k0_e0 k0_r n) a b c d
def f185.T0 (a b:LM) (c d:Int):T:=mkT 26 [(0,(.tv (.sl (.st 0)) a)),(1,(.tv (.sl (.st 0)) b)),(12,(.tv i64 c)),(13,(.tv i64 d))]
def f185.H0 (a b:LM) (c d:Int):H:=[]
def f185.T0_e0:T:=mkT 26 []
def f185.H0_e0:H:=[]
def f185.T0_r (a:Bool):T:=mkT 26 [(4,(.tv .bool a))]
def f185.H0_r (a:Bool):H:=[]
def f185.p0_e0' (L N:Nat) (k:Bool->Option R):Option R:=
 k true
def f185.p0_e0 (L N:Nat) (k:Bool->Option R):Option R:=
 f185.p0_e0' L N k
def f185.p0_r' (L N:Nat) (k:Bool->Option R) (a:Bool):Option R:=
 k a
def f185.p0_r (L N:Nat) (k:Bool->Option R) (a:Bool):Option R:=
 f185.p0_r' L N k a
def f185.b' (L N:Nat) (k:Bool->Option R) (c:LM->LM->Int->Int->Option R) (a b:LM):Option R:=
 bif ((a.length:Int) !=(b.length:Int)) then
  k false
 else c a b (a.length:Int) (0:Int)
def f185.b (L N:Nat) (k:Bool->Option R) (a c:LM):Option R:=
 f185.b' L N k (fun d e f g=>f185.l0 L N (f185.p0_e0 L N k) (fun h=>f185.p0_r L N k h) L d e f g) a c
def f185 (L N:Nat) (a c:LM):Option (Bool):=f185.b L N some a c
def f185.ent (L N:Nat):=entRo [(.sl (.st 0)),(.sl (.st 0))] (.one .bool) fun d=>f185 L N d.1 d.2.1
noncomputable def E185 (L N:Nat):Env:={P:=Tryz.prog,ty:=tyOf,Φ:=(Φ146 L N),inl:=inlT,live:=lives,liveX:=livesX,L:=L,dp:=none,prom:=promT,heal:=healT,ren:=renT}
noncomputable def f185.c0:Code:=loopAt 0 (codeOf Tryz.f185)
def f185.X0_e0 (κ:KX R):=κ (.exit 0) f185.T0_e0 f185.H0_e0
def f185.X0_r (κ:KX R):=fun a=>κ .ret (f185.T0_r a) (f185.H0_r a)
def f185.R0 (rec:KT R):=fun a b c d=>rec (f185.T0 a b c d) (f185.H0 a b c d)
theorem f185.s0_eq (L N:Nat) (κ:KX R) (rec:KT R) (a b:LM) (c d:Int):
  evRd (E185 L N) (evCallI (E185 L N) 0 1000) 1000 185 26 0 f185.c0 κ rec (f185.T0 a b c d) (f185.H0 a b c d)
  =f185.s0 L N (f185.X0_e0 κ) (f185.X0_r κ) (f185.R0 rec) a b c d:=by kernel_rfl
theorem f185.l0_eq (L N:Nat) (κ:KX R):∀(n:Nat) (a b:LM) (c d:Int),
  evLp (E185 L N) (evCallI (E185 L N) 0 1000) 1000 185 26 0 f185.c0 κ n (f185.T0 a b c d) (f185.H0 a b c d)
  =f185.l0 L N (f185.X0_e0 κ) (f185.X0_r κ) n a b c d:=by
 intro n
 induction n with
 |zero=>intros;rfl
 |succ n ih=>
  intro a b c d
  rw [evLp_succ,f185.s0_eq]
  delta f185.R0
  simp only [ih]
  rfl
theorem f185.p0_e0_eq (L N:Nat) (κ:AV->Option R):
  (contAt (E185 L N) (evCallI (E185 L N) 0 1000) 1000 185 26 0 (codeOf Tryz.f185) (finK (E185 L N) 1000 Tryz.f185 (finC (.one .bool) κ))) (.exit 0) f185.T0_e0 f185.H0_e0
  =f185.p0_e0 L N (fun a0=>κ (.tv .bool a0)):=by kernel_rfl
theorem f185.p0_r_eq (L N:Nat) (κ:AV->Option R) (a:Bool):
  (contAt (E185 L N) (evCallI (E185 L N) 0 1000) 1000 185 26 0 (codeOf Tryz.f185) (finK (E185 L N) 1000 Tryz.f185 (finC (.one .bool) κ))) .ret (f185.T0_r a) (f185.H0_r a)
  =f185.p0_r L N (fun a0=>κ (.tv .bool a0)) a:=by kernel_rfl
theorem f185.b_eq (L N:Nat) (κ:AV->Option R) (a c:LM):
  evBody (E185 L N) (evCallI (E185 L N) 0 1000) 1000 185 Tryz.f185 [(.tv (.sl (.st 0)) a),(.tv (.sl (.st 0)) c)] [] [] (finC (.one .bool) κ)
  =f185.b L N (fun a0=>κ (.tv .bool a0)) a c:=by
 refine Eq.trans (b:=f185.b' L N (fun a0=>κ (.tv .bool a0)) (fun d e f g=>evLp (E185 L N) (evCallI (E185 L N) 0 1000) 1000 185 26 0 f185.c0 (contAt (E185 L N) (evCallI (E185 L N) 0 1000) 1000 185 26 0 (codeOf Tryz.f185) (finK (E185 L N) 1000 Tryz.f185 (finC (.one .bool) κ))) L (f185.T0 d e f g) (f185.H0 d e f g)) a c) (by kernel_rfl) ?_
 unfold f185.b
 simp only [f185.l0_eq]
 delta f185.X0_e0 f185.X0_r
 simp only [f185.p0_e0_eq,f185.p0_r_eq]
theorem f185.ok (L N:Nat) (hΦ:TellsOk Tryz.prog ((Φ146 L N))):EntOk Tryz.prog 185 (f185.ent L N):=entRo_ok (E:=(E185 L N)) (dep:=1000) (f:=Tryz.f185) (sound_of hΦ) okP (callI_sound (sound_of hΦ) okP 0 1000) rfl rfl fun d _ hy=>(f185.b_eq L N (unR (.one .bool)) d.1 d.2.1).trans (Eq.trans (b:=f185.b L N some d.1 d.2.1) (by kernel_rfl) hy)
def Φ185 (L N:Nat):Tells:=(addT (Φ146 L N) 185 (f185.ent L N))
theorem Φ185_ok (L N:Nat):TellsOk Tryz.prog (Φ185 L N):=addT_ok (Φ146_ok L N) (f185.ok L N (Φ146_ok L N))
def f112_1.s0' (L N:Nat) (k0_e0:LM->Option R) (rec0:LI->LM->Int->Int->LM->Option R) (c:LI) (b:LM) (e a:Int) (d:LM):Option R:=
 bif (decide (a<e)) then
  bif (decide (0≤a)&&decide (a<(b.length:Int))) then
   bif (decide (0≤(listAt b (Ty.dflt (.st 0)) a.toNat).to)&&decide ((listAt b (Ty.dflt (.st 0)) a.toNat).to<(c.length:Int))) then
    bif (decide (d.length+([(Move.mk ((listAt b (Ty.dflt (.st 0)) a.toNat).act) (listAt c (0:Int) ((listAt b (Ty.dflt (.st 0)) a.toNat).to).toNat))]:LM).length≤lim)) then
     rec0 c b e (wi (a+(1:Int))) (d++([(Move.mk ((listAt b (Ty.dflt (.st 0)) a.toNat).act) (listAt c (0:Int) ((listAt b (Ty.dflt (.st 0)) a.toNat).to).toNat))]:LM))
    else none
   else none
  else none
 else k0_e0 d
def f112_1.s0 (L N:Nat) (k0_e0:LM->Option R) (rec0:LI->LM->Int->Int->LM->Option R) (a:LI) (b:LM) (c d:Int) (e:LM):Option R:=
 f112_1.s0' L N k0_e0 rec0 a b c d e
def f112_1.l0 (L N:Nat) (k0_e0:LM->Option R):Nat->LI->LM->Int->Int->LM->Option R
 |0,_,_,_,_,_=>none
 |n+1,a,b,c,d,e=>f112_1.s0 L N k0_e0 (f112_1.l0 L N k0_e0 n) a b c d e
def f112_1.T0 (a:LI) (b:LM) (c d:Int) (e:LM):T:=mkT 34 [(0,(.tv (.sl i64) a)),(6,(.row 1009)),(14,(.tv (.sl (.st 0)) b)),(15,(.tv i64 c)),(16,(.tv i64 d))]
def f112_1.H0 (b:LI) (c:LM) (d e:Int) (a:LM):H:=[(1009,(.row 63 (.st 0) a))]
def f112_1.T0_e0 (a:LM):T:=mkT 34 [(6,(.row 1009))]
def f112_1.H0_e0 (a:LM):H:=[(1009,(.row 63 (.st 0) a))]
def f112_1.p0_e0' (L N:Nat) (k:LM->Option R) (a:LM):Option R:=
 ((fsortM a)).bind fun b=>
 k (tidyM a)
def f112_1.p0_e0 (L N:Nat) (k:LM->Option R) (a:LM):Option R:=
 f112_1.p0_e0' L N k a
def f112_1.b' (L N:Nat) (k:LM->Option R) (c:LI->LM->Int->Int->LM->Option R) (d:LI) (a:Int) (b:LLM):Option R:=
 bif (decide (0≤a)&&decide (a<(b.length:Int))) then
  c d (listAt b [] a.toNat) ((listAt b [] a.toNat).length:Int) (0:Int) ([]:LM)
 else none
def f112_1.b (L N:Nat) (k:LM->Option R) (a:LI) (c:Int) (d:LLM):Option R:=
 f112_1.b' L N k (fun e f g h i=>f112_1.l0 L N (fun j=>f112_1.p0_e0 L N k j) L e f g h i) a c d
def f112_1 (L N:Nat) (a:LI) (c:Int) (d:LLM):Option (LM):=f112_1.b L N some a c d
def f112_1.ent (L N:Nat):=entDf [(.dat (.sl i64)),(.dat i64),(.imp (.sl (.sl (.st 0))) 0)] (.one (.sl (.st 0))) fun d=>f112_1 L N d.1 d.2.1 d.2.2.1
noncomputable def E112_1 (L N:Nat):Env:={P:=Tryz.prog,ty:=tyOf,Φ:=(Φ185 L N),inl:=inlT,live:=lives,liveX:=livesX,L:=L,dp:=none,prom:=promT,heal:=healT,ren:=renT}
noncomputable def f112_1.c0:Code:=loopAt 0 (codeOf Tryz.f112)
def f112_1.X0_e0 (κ:KX R):=fun a=>κ (.exit 0) (f112_1.T0_e0 a) (f112_1.H0_e0 a)
def f112_1.R0 (rec:KT R):=fun a b c d e=>rec (f112_1.T0 a b c d e) (f112_1.H0 a b c d e)
theorem f112_1.s0_eq (L N:Nat) (κ:KX R) (rec:KT R) (a:LI) (b:LM) (c d:Int) (e:LM):
  evRd (E112_1 L N) (evCallI (E112_1 L N) 0 1000) 1000 112 34 0 f112_1.c0 κ rec (f112_1.T0 a b c d e) (f112_1.H0 a b c d e)
  =f112_1.s0 L N (f112_1.X0_e0 κ) (f112_1.R0 rec) a b c d e:=by kernel_rfl
theorem f112_1.l0_eq (L N:Nat) (κ:KX R):∀(n:Nat) (a:LI) (b:LM) (c d:Int) (e:LM),
  evLp (E112_1 L N) (evCallI (E112_1 L N) 0 1000) 1000 112 34 0 f112_1.c0 κ n (f112_1.T0 a b c d e) (f112_1.H0 a b c d e)
  =f112_1.l0 L N (f112_1.X0_e0 κ) n a b c d e:=by
 intro n
 induction n with
 |zero=>intros;rfl
 |succ n ih=>
  intro a b c d e
  rw [evLp_succ,f112_1.s0_eq]
  delta f112_1.R0
  simp only [ih]
  rfl
theorem f112_1.p0_e0_eq (L N:Nat) (κ:AV->Option R) (a:LM):
  (contAt (E112_1 L N) (evCallI (E112_1 L N) 0 1000) 1000 112 34 0 (codeOf Tryz.f112) (finK (E112_1 L N) 1000 Tryz.f112 (finC (.one (.sl (.st 0))) κ))) (.exit 0) (f112_1.T0_e0 a) (f112_1.H0_e0 a)
  =f112_1.p0_e0 L N (fun a0=>κ (.tv (.sl (.st 0)) a0)) a:=by kernel_rfl
theorem f112_1.b_eq (L N:Nat) (κ:AV->Option R) (a:LI) (c:Int) (d:LLM):
  evBody (E112_1 L N) (evCallI (E112_1 L N) 0 1000) 1000 112 Tryz.f112 [(.tv (.sl i64) a),(.tv i64 c),(.imp (.sl (.sl (.st 0))) d 0)] [] [] (finC (.one (.sl (.st 0))) κ)
  =f112_1.b L N (fun a0=>κ (.tv (.sl (.st 0)) a0)) a c d:=by
 refine Eq.trans (b:=f112_1.b' L N (fun a0=>κ (.tv (.sl (.st 0)) a0)) (fun e f g h i=>evLp (E112_1 L N) (evCallI (E112_1 L N) 0 1000) 1000 112 34 0 f112_1.c0 (contAt (E112_1 L N) (evCallI (E112_1 L N) 0 1000) 1000 112 34 0 (codeOf Tryz.f112) (finK (E112_1 L N) 1000 Tryz.f112 (finC (.one (.sl (.st 0))) κ))) L (f112_1.T0 e f g h i) (f112_1.H0 e f g h i)) a c d) (by kernel_rfl) ?_
 unfold f112_1.b
 simp only [f112_1.l0_eq]
 delta f112_1.X0_e0
 simp only [f112_1.p0_e0_eq]
theorem f112_1.ok (L N:Nat) (hΦ:TellsOk Tryz.prog ((Φ185 L N))):EntOkO Tryz.prog 112 (f112_1.ent L N):=entDf_ok (E:=(E112_1 L N)) (dep:=1000) (f:=Tryz.f112) (sound_of hΦ) okP (callI_sound (sound_of hΦ) okP 0 1000) rfl fun d _ hy=>(f112_1.b_eq L N (unR (.one (.sl (.st 0)))) d.1 d.2.1 d.2.2.1).trans (Eq.trans (b:=f112_1.b L N some d.1 d.2.1 d.2.2.1) (by kernel_rfl) hy)
def Φ112_1 (L N:Nat):Tells:=(addO (Φ185 L N) 112 (f112_1.ent L N))
theorem Φ112_1_ok (L N:Nat):TellsOk Tryz.prog (Φ112_1 L N):=addO_ok (Φ185_ok L N) (f112_1.ok L N (Φ185_ok L N))
def f145_1.b' (L N:Nat) (k:LM->Option R) (a:Int) (b:LLM) (c:LI):Option R:=
 (f112_1 L N c a b).bind fun d=>
 k d
def f145_1.b (L N:Nat) (k:LM->Option R) (a:Int) (c:LLM) (d:LI):Option R:=
 f145_1.b' L N k a c d
def f145_1 (L N:Nat) (a:Int) (c:LLM) (d:LI):Option (LM):=f145_1.b L N some a c d
def f145_1.ent (L N:Nat):=entDf [(.dat i64),(.pfn 112 [(.imp (.sl (.sl (.st 0))) 0)]),(.imp (.sl i64) 0)] (.one (.sl (.st 0))) fun d=>f145_1 L N d.1 d.2.1.1 d.2.2.1
noncomputable def E145_1 (L N:Nat):Env:={P:=Tryz.prog,ty:=tyOf,Φ:=(Φ112_1 L N),inl:=inlT,live:=lives,liveX:=livesX,L:=L,dp:=none,prom:=promT,heal:=healT,ren:=renT}
theorem f145_1.b_eq (L N:Nat) (κ:AV->Option R) (a:Int) (c:LLM) (d:LI):
  evBody (E145_1 L N) (evCallI (E145_1 L N) 0 1000) 1000 145 Tryz.f145 [(.tv i64 a),(.imf 112 [(.imp (.sl (.sl (.st 0))) c 0)]),(.imp (.sl i64) d 0)] [] [] (finC (.one (.sl (.st 0))) κ)
  =f145_1.b L N (fun a0=>κ (.tv (.sl (.st 0)) a0)) a c d:=by kernel_rfl
theorem f145_1.ok (L N:Nat) (hΦ:TellsOk Tryz.prog ((Φ112_1 L N))):EntOkO Tryz.prog 145 (f145_1.ent L N):=entDf_ok (E:=(E145_1 L N)) (dep:=1000) (f:=Tryz.f145) (sound_of hΦ) okP (callI_sound (sound_of hΦ) okP 0 1000) rfl fun d _ hy=>(f145_1.b_eq L N (unR (.one (.sl (.st 0)))) d.1 d.2.1.1 d.2.2.1).trans (Eq.trans (b:=f145_1.b L N some d.1 d.2.1.1 d.2.2.1) (by kernel_rfl) hy)
def Φ145_1 (L N:Nat):Tells:=(addO (Φ112_1 L N) 145 (f145_1.ent L N))
theorem Φ145_1_ok (L N:Nat):TellsOk Tryz.prog (Φ145_1 L N):=addO_ok (Φ112_1_ok L N) (f145_1.ok L N (Φ112_1_ok L N))
def f144_1.j0' (L N:Nat) (k1_e2:LI->LLM->LI->Int->Int->LI->LLM->Option R) (rec1:LI->LLM->LI->Int->Int->Int->Int->LI->LLM->Option R) (c:LI) (d:LLM) (e:LI) (a f:Int) (g h:Int) (j:Bool) (b:LI) (i:LLM):Option R:=
 bif j then
  bif (decide (0≤a)&&decide (a<(b.length:Int))) then
   k1_e2 c d e g h (b.set a.toNat f) i
  else none
 else rec1 c d e a (wi (f+(1:Int))) g h b i
def f144_1.s1' (L N:Nat) (k1_e2:LI->LLM->LI->Int->Int->LI->LLM->Option R) (rec1:LI->LLM->LI->Int->Int->Int->Int->LI->LLM->Option R) (c:LI) (e:LLM) (f:LI) (a b:Int) (g h:Int) (i:LI) (d:LLM):Option R:=
 bif (decide (b<a)) then
  bif (decide (0≤b)&&decide (b<(c.length:Int))) then
   bif (decide (0≤a)&&decide (a<(c.length:Int))) then
    bif ((listAt c (0:Int) b.toNat)==(listAt c (0:Int) a.toNat)) then
     bif (decide (0≤b)&&decide (b<(d.length:Int))) then
      bif (decide (0≤a)&&decide (a<(d.length:Int))) then
       (f185 L N (listAt d [] b.toNat) (listAt d [] a.toNat)).bind fun j=>
       f144_1.j0' L N k1_e2 rec1 c e f a b g h j i d
      else none
     else none
    else f144_1.j0' L N k1_e2 rec1 c e f a b g h false i d
   else none
  else none
 else k1_e2 c e f g h i d
def f144_1.s1 (L N:Nat) (k1_e2:LI->LLM->LI->Int->Int->LI->LLM->Option R) (rec1:LI->LLM->LI->Int->Int->Int->Int->LI->LLM->Option R) (a:LI) (b:LLM) (c:LI) (d e:Int) (f g:Int) (h:LI) (i:LLM):Option R:=
 f144_1.s1' L N k1_e2 rec1 a b c d e f g h i
def f144_1.l1 (L N:Nat) (k1_e2:LI->LLM->LI->Int->Int->LI->LLM->Option R):Nat->LI->LLM->LI->Int->Int->Int->Int->LI->LLM->Option R
 |0,_,_,_,_,_,_,_,_,_=>none
 |n+1,a,b,c,d,e,f,g,h,i=>f144_1.s1 L N k1_e2 (f144_1.l1 L N k1_e2 n) a b c d e f g h i
def f144_1.T1 (a:LI) (b:LLM) (c:LI) (d e:Int) (f g:Int) (h:LI) (i:LLM):T:=mkT 61 [(0,(.tv (.sl i64) a)),(1,(.fn 145 [(.imf 112 [(.imp (.sl (.sl (.st 0))) b 0)]),(.imp (.sl i64) c 0)])),(5,(.row 1011)),(6,(.row 1014)),(7,(.tv i64 d)),(8,(.tv i64 e)),(16,(.tv i64 f)),(17,(.tv i64 g))]
def f144_1.H1 (c:LI) (d:LLM) (e:LI) (f g:Int) (h i:Int) (a:LI) (b:LLM):H:=[(1011,(.row 3 i64 a)),(1014,(.row 61 (.sl (.st 0)) b))]
def f144_1.T1_e2 (a:LI) (b:LLM) (c:LI) (d e:Int) (f:LI) (g:LLM):T:=mkT 61 [(0,(.tv (.sl i64) a)),(1,(.fn 145 [(.imf 112 [(.imp (.sl (.sl (.st 0))) b 0)]),(.imp (.sl i64) c 0)])),(5,(.row 1011)),(6,(.row 1014)),(16,(.tv i64 d)),(17,(.tv i64 e))]
def f144_1.H1_e2 (c:LI) (d:LLM) (e:LI) (f g:Int) (a:LI) (b:LLM):H:=[(1011,(.row 3 i64 a)),(1014,(.row 61 (.sl (.st 0)) b))]
def f144_1.p1_e2' (L N:Nat) (k0_e0:LI->Option R) (rec0:LI->LLM->LI->Int->Int->LI->LLM->Option R) (a:LI) (b:LLM) (c:LI) (d e:Int) (f:LI) (g:LLM):Option R:=
 rec0 a b c d (wi (e+(1:Int))) f g
def f144_1.p1_e2 (L N:Nat) (k0_e0:LI->Option R) (rec0:LI->LLM->LI->Int->Int->LI->LLM->Option R) (a:LI) (b:LLM) (c:LI) (d e:Int) (f:LI) (g:LLM):Option R:=
 f144_1.p1_e2' L N k0_e0 rec0 a b c d e f g
def f144_1.s0' (L N:Nat) (k0_e0:LI->Option R) (rec0:LI->LLM->LI->Int->Int->LI->LLM->Option R) (g:LI->LLM->LI->Int->Int->Int->Int->LI->LLM->Option R) (h:LI) (c:LLM) (d:LI) (e a:Int) (b:LI) (f:LLM):Option R:=
 bif (decide (a<e)) then
  (f145_1 L N a c d).bind fun i=>
  bif (decide (0≤a)&&decide (a<(f.length:Int))) then
   bif (decide (0≤a)&&decide (a<(b.length:Int))) then
    g h c d a (0:Int) e a (b.set a.toNat a) (f.set a.toNat i)
   else none
  else none
 else k0_e0 b
def f144_1.s0 (L N:Nat) (k0_e0:LI->Option R) (rec0:LI->LLM->LI->Int->Int->LI->LLM->Option R) (a:LI) (b:LLM) (c:LI) (d e:Int) (f:LI) (g:LLM):Option R:=
 f144_1.s0' L N k0_e0 rec0 (fun h i j k l m n o p=>f144_1.l1 L N (fun q r s t u v w=>f144_1.p1_e2 L N k0_e0 rec0 q r s t u v w) L h i j k l m n o p) a b c d e f g
def f144_1.l0 (L N:Nat) (k0_e0:LI->Option R):Nat->LI->LLM->LI->Int->Int->LI->LLM->Option R
 |0,_,_,_,_,_,_,_=>none
 |n+1,a,b,c,d,e,f,g=>f144_1.s0 L N k0_e0 (f144_1.l0 L N k0_e0 n) a b c d e f g
def f144_1.T0 (a:LI) (b:LLM) (c:LI) (d e:Int) (f:LI) (g:LLM):T:=mkT 61 [(0,(.tv (.sl i64) a)),(1,(.fn 145 [(.imf 112 [(.imp (.sl (.sl (.st 0))) b 0)]),(.imp (.sl i64) c 0)])),(5,(.row 1011)),(6,(.row 1014)),(16,(.tv i64 d)),(17,(.tv i64 e))]
def f144_1.H0 (c:LI) (d:LLM) (e:LI) (f g:Int) (a:LI) (b:LLM):H:=[(1011,(.row 3 i64 a)),(1014,(.row 61 (.sl (.st 0)) b))]
def f144_1.T0_e0 (a:LI):T:=mkT 61 [(5,(.row 1011))]
def f144_1.H0_e0 (a:LI):H:=[(1011,(.row 3 i64 a))]
def f144_1.p0_e0' (L N:Nat) (k:LI->Option R) (a:LI):Option R:=
 k a
def f144_1.p0_e0 (L N:Nat) (k:LI->Option R) (a:LI):Option R:=
 f144_1.p0_e0' L N k a
def f144_1.b' (L N:Nat) (k:LI->Option R) (b:LI->LLM->LI->Int->Int->LI->LLM->Option R) (a:LI) (c:LLM) (d:LI):Option R:=
 bif (decide (0≤(a.length:Int))&&decide ((a.length:Int)≤(lim:Int))) then
  bif (decide (0≤(a.length:Int))&&decide ((a.length:Int)≤(lim:Int))) then
   b a c d (a.length:Int) (0:Int) (List.replicate (a.length:Int).toNat (0:Int)) (List.replicate (a.length:Int).toNat [])
  else none
 else none
def f144_1.b (L N:Nat) (k:LI->Option R) (a:LI) (c:LLM) (d:LI):Option R:=
 f144_1.b' L N k (fun e f g h i j l=>f144_1.l0 L N (fun m=>f144_1.p0_e0 L N k m) L e f g h i j l) a c d
def f144_1 (L N:Nat) (a:LI) (c:LLM) (d:LI):Option (LI):=f144_1.b L N some a c d
def f144_1.ent (L N:Nat) (args:List AV) (vw:View) (site:Nat):Option Ans:=match shD [(.dat (.sl i64)),(.fn 145 [(.pfn 112 [(.imp (.sl (.sl (.st 0))) 0)]),(.imp (.sl i64) 0)])] vw args with
 |some d=>some ⟨LI,f144_1 L N d.1 d.2.1.1.1 d.2.1.2.1,fun y=>(RN.av site .row (),[(site,some (mkO none 3 i64 y))],[])⟩
 |none=>none
noncomputable def E144_1 (L N:Nat):Env:={P:=Tryz.prog,ty:=tyOf,Φ:=(Φ145_1 L N),inl:=inlT,live:=lives,liveX:=livesX,L:=L,dp:=none,prom:=promT,heal:=healT,ren:=renT}
noncomputable def f144_1.c0:Code:=loopAt 0 (codeOf Tryz.f144)
noncomputable def f144_1.c1:Code:=loopAt 2 f144_1.c0
def f144_1.X1_e2 (κ:KX R):=fun a b c d e f g=>κ (.exit 2) (f144_1.T1_e2 a b c d e f g) (f144_1.H1_e2 a b c d e f g)
def f144_1.R1 (rec:KT R):=fun a b c d e f g h i=>rec (f144_1.T1 a b c d e f g h i) (f144_1.H1 a b c d e f g h i)
theorem f144_1.s1_eq (L N:Nat) (κ:KX R) (rec:KT R) (a:LI) (b:LLM) (c:LI) (d e:Int) (f g:Int) (h:LI) (i:LLM):
  evRd (E144_1 L N) (evCallI (E144_1 L N) 0 1000) 1000 144 61 2 f144_1.c1 κ rec (f144_1.T1 a b c d e f g h i) (f144_1.H1 a b c d e f g h i)
  =f144_1.s1 L N (f144_1.X1_e2 κ) (f144_1.R1 rec) a b c d e f g h i:=by kernel_rfl
theorem f144_1.l1_eq (L N:Nat) (κ:KX R):∀(n:Nat) (a:LI) (b:LLM) (c:LI) (d e:Int) (f g:Int) (h:LI) (i:LLM),
  evLp (E144_1 L N) (evCallI (E144_1 L N) 0 1000) 1000 144 61 2 f144_1.c1 κ n (f144_1.T1 a b c d e f g h i) (f144_1.H1 a b c d e f g h i)
  =f144_1.l1 L N (f144_1.X1_e2 κ) n a b c d e f g h i:=by
 intro n
 induction n with
 |zero=>intros;rfl
 |succ n ih=>
  intro a b c d e f g h i
  rw [evLp_succ,f144_1.s1_eq]
  delta f144_1.R1
  simp only [ih]
  rfl
def f144_1.X0_e0 (κ:KX R):=fun a=>κ (.exit 0) (f144_1.T0_e0 a) (f144_1.H0_e0 a)
def f144_1.R0 (rec:KT R):=fun a b c d e f g=>rec (f144_1.T0 a b c d e f g) (f144_1.H0 a b c d e f g)
theorem f144_1.p1_e2_eq (L N:Nat) (κ:KX R) (rec:KT R) (a:LI) (b:LLM) (c:LI) (d e:Int) (f:LI) (g:LLM):
  (contAt (E144_1 L N) (evCallI (E144_1 L N) 0 1000) 1000 144 61 2 f144_1.c0 (rdK (E144_1 L N) 1000 144 61 0 κ rec)) (.exit 2) (f144_1.T1_e2 a b c d e f g) (f144_1.H1_e2 a b c d e f g)
  =f144_1.p1_e2 L N (f144_1.X0_e0 κ) (f144_1.R0 rec) a b c d e f g:=by kernel_rfl
theorem f144_1.s0_eq (L N:Nat) (κ:KX R) (rec:KT R) (a:LI) (c:LLM) (d:LI) (e f:Int) (g:LI) (h:LLM):
  evRd (E144_1 L N) (evCallI (E144_1 L N) 0 1000) 1000 144 61 0 f144_1.c0 κ rec (f144_1.T0 a c d e f g h) (f144_1.H0 a c d e f g h)
  =f144_1.s0 L N (f144_1.X0_e0 κ) (f144_1.R0 rec) a c d e f g h:=by
 refine Eq.trans (b:=f144_1.s0' L N (f144_1.X0_e0 κ) (f144_1.R0 rec) (fun i j k l m n o p q=>evLp (E144_1 L N) (evCallI (E144_1 L N) 0 1000) 1000 144 61 2 f144_1.c1 (contAt (E144_1 L N) (evCallI (E144_1 L N) 0 1000) 1000 144 61 2 f144_1.c0 (rdK (E144_1 L N) 1000 144 61 0 κ rec)) L (f144_1.T1 i j k l m n o p q) (f144_1.H1 i j k l m n o p q)) a c d e f g h) (by kernel_rfl) ?_
 unfold f144_1.s0
 simp only [f144_1.l1_eq]
 delta f144_1.X1_e2
 simp only [f144_1.p1_e2_eq]
theorem f144_1.l0_eq (L N:Nat) (κ:KX R):∀(n:Nat) (a:LI) (b:LLM) (c:LI) (d e:Int) (f:LI) (g:LLM),
  evLp (E144_1 L N) (evCallI (E144_1 L N) 0 1000) 1000 144 61 0 f144_1.c0 κ n (f144_1.T0 a b c d e f g) (f144_1.H0 a b c d e f g)
  =f144_1.l0 L N (f144_1.X0_e0 κ) n a b c d e f g:=by
 intro n
 induction n with
 |zero=>intros;rfl
 |succ n ih=>
  intro a b c d e f g
  rw [evLp_succ,f144_1.s0_eq]
  delta f144_1.R0
  simp only [ih]
  rfl
theorem f144_1.p0_e0_eq (L N:Nat) (κ:RN.Den .row->List Int->Option R) (a:LI):
  (contAt (E144_1 L N) (evCallI (E144_1 L N) 0 1000) 1000 144 61 0 (codeOf Tryz.f144) (finK (E144_1 L N) 1000 Tryz.f144 (finN .row none 3 i64 κ))) (.exit 0) (f144_1.T0_e0 a) (f144_1.H0_e0 a)
  =f144_1.p0_e0 L N (fun a0=>κ () a0) a:=by kernel_rfl
theorem f144_1.b_eq (L N:Nat) (κ:RN.Den .row->List Int->Option R) (a:LI) (c:LLM) (d:LI):
  evBody (E144_1 L N) (evCallI (E144_1 L N) 0 1000) 1000 144 Tryz.f144 [(.tv (.sl i64) a),(.fn 145 [(.imf 112 [(.imp (.sl (.sl (.st 0))) c 0)]),(.imp (.sl i64) d 0)])] [] [] (finN .row none 3 i64 κ)
  =f144_1.b L N (fun a0=>κ () a0) a c d:=by
 refine Eq.trans (b:=f144_1.b' L N (fun a0=>κ () a0) (fun e f g h i j k=>evLp (E144_1 L N) (evCallI (E144_1 L N) 0 1000) 1000 144 61 0 f144_1.c0 (contAt (E144_1 L N) (evCallI (E144_1 L N) 0 1000) 1000 144 61 0 (codeOf Tryz.f144) (finK (E144_1 L N) 1000 Tryz.f144 (finN .row none 3 i64 κ))) L (f144_1.T0 e f g h i j k) (f144_1.H0 e f g h i j k)) a c d) (by kernel_rfl) ?_
 unfold f144_1.b
 simp only [f144_1.l0_eq]
 delta f144_1.X0_e0
 simp only [f144_1.p0_e0_eq]
theorem f144_1.ok (L N:Nat) (hΦ:TellsOk Tryz.prog ((Φ145_1 L N))):EntOkO Tryz.prog 144 (f144_1.ent L N):=by
 intro args vw site h a ha
 unfold f144_1.ent at ha
 split at ha
 ·rename_i d hd
  obtain rfl:=Option.some.inj ha
  intro y hy hs
  refine call_ronF (y:=y) (dep:=1000) (E:=(E144_1 L N)) (rn:=.row) (q:=none) (el:=3) (ty:=i64) (d1:=()) (xs:=y) (κ:=(fun d xs=>some xs)) (sound_of hΦ) okP (callI_sound (sound_of hΦ) okP 0 1000) (f:=Tryz.f144) rfl hs hd ?_ (fun _ _ h=>by obtain rfl:=Option.some.inj h;exact ⟨rfl,rfl⟩) rfl site
  exact (f144_1.b_eq L N (fun d xs=>some xs) d.1 d.2.1.1.1 d.2.1.2.1).trans (Eq.trans (b:=f144_1.b L N some d.1 d.2.1.1.1 d.2.1.2.1) (by kernel_rfl) hy)
 ·cases ha
def Φ144_1 (L N:Nat):Tells:=(addO (Φ145_1 L N) 144 (f144_1.ent L N))
theorem Φ144_1_ok (L N:Nat):TellsOk Tryz.prog (Φ144_1 L N):=addO_ok (Φ145_1_ok L N) (f144_1.ok L N (Φ145_1_ok L N))
def f111_1.s0' (L N:Nat) (k0_r:LLI->Option R) (rec0:LLM->LLI->Option R) (c:LLM) (a:LLI):Option R:=
 bif (decide (0≤(wi ((a.length:Int)-(1:Int))))&&decide ((wi ((a.length:Int)-(1:Int)))<(a.length:Int))) then
  (f144_1 L N (listAt a [] (wi ((a.length:Int)-(1:Int))).toNat) c (listAt a [] (wi ((a.length:Int)-(1:Int))).toNat)).bind fun b=>
  (f146 L N b (listAt a [] (wi ((a.length:Int)-(1:Int))).toNat)).bind fun d=>
  bif d then
   k0_r a
  else bif (decide (a.length+([b]:LLI).length≤lim)) then
   rec0 c (a++([b]:LLI))
  else none
 else none
def f111_1.s0 (L N:Nat) (k0_r:LLI->Option R) (rec0:LLM->LLI->Option R) (a:LLM) (b:LLI):Option R:=
 f111_1.s0' L N k0_r rec0 a b
def f111_1.l0 (L N:Nat) (k0_r:LLI->Option R):Nat->LLM->LLI->Option R
 |0,_,_=>none
 |n+1,a,b=>f111_1.s0 L N k0_r (f111_1.l0 L N k0_r n) a b
def f111_1.T0 (a:LLM) (b:LLI):T:=mkT 28 [(3,(.ptr 1003 0)),(5,(.row 1010))]
def f111_1.H0 (a:LLM) (b:LLI):H:=[(1003,(.box [(.fn 112 [(.imp (.sl (.sl (.st 0))) a 0)])])),(1010,(.row 32 (.sl i64) b))]
def f111_1.T0_r (a:LLI):T:=mkT 28 [(4,(.row 1010))]
def f111_1.H0_r (a:LLI):H:=[(1010,(.row 32 (.sl i64) a))]
def f111_1.p0_r' (L N:Nat) (k:LLI->Option R) (a:LLI):Option R:=
 k a
def f111_1.p0_r (L N:Nat) (k:LLI->Option R) (a:LLI):Option R:=
 f111_1.p0_r' L N k a
def f111_1.b' (L N:Nat) (k:LLI->Option R) (b:LLM->LLI->Option R) (a:Int) (c:LLM):Option R:=
 bif (decide (0≤a)&&decide (a≤(lim:Int))) then
  b c ([(List.replicate a.toNat (0:Int))]:LLI)
 else none
def f111_1.b (L N:Nat) (k:LLI->Option R) (a:Int) (c:LLM):Option R:=
 f111_1.b' L N k (fun d e=>f111_1.l0 L N (fun f=>f111_1.p0_r L N k f) L d e) a c
def f111_1 (L N:Nat) (a:Int) (c:LLM):Option (LLI):=f111_1.b L N some a c
def f111_1.ent (L N:Nat):=entDf [(.dat i64),(.fn 112 [(.imp (.sl (.sl (.st 0))) 0)])] (.one (.sl (.sl i64))) fun d=>f111_1 L N d.1 d.2.1.1
noncomputable def E111_1 (L N:Nat):Env:={P:=Tryz.prog,ty:=tyOf,Φ:=(Φ144_1 L N),inl:=inlT,live:=lives,liveX:=livesX,L:=L,dp:=none,prom:=promT,heal:=healT,ren:=renT}
noncomputable def f111_1.c0:Code:=loopAt 0 (codeOf Tryz.f111)
def f111_1.X0_r (κ:KX R):=fun a=>κ .ret (f111_1.T0_r a) (f111_1.H0_r a)
def f111_1.R0 (rec:KT R):=fun a b=>rec (f111_1.T0 a b) (f111_1.H0 a b)
theorem f111_1.s0_eq (L N:Nat) (κ:KX R) (rec:KT R) (a:LLM) (b:LLI):
  evRd (E111_1 L N) (evCallI (E111_1 L N) 0 1000) 1000 111 28 0 f111_1.c0 κ rec (f111_1.T0 a b) (f111_1.H0 a b)
  =f111_1.s0 L N (f111_1.X0_r κ) (f111_1.R0 rec) a b:=by kernel_rfl
theorem f111_1.l0_eq (L N:Nat) (κ:KX R):∀(n:Nat) (a:LLM) (b:LLI),
  evLp (E111_1 L N) (evCallI (E111_1 L N) 0 1000) 1000 111 28 0 f111_1.c0 κ n (f111_1.T0 a b) (f111_1.H0 a b)
  =f111_1.l0 L N (f111_1.X0_r κ) n a b:=by
 intro n
 induction n with
 |zero=>intros;rfl
 |succ n ih=>
  intro a b
  rw [evLp_succ,f111_1.s0_eq]
  delta f111_1.R0
  simp only [ih]
  rfl
theorem f111_1.p0_r_eq (L N:Nat) (κ:AV->Option R) (a:LLI):
  (contAt (E111_1 L N) (evCallI (E111_1 L N) 0 1000) 1000 111 28 0 (codeOf Tryz.f111) (finK (E111_1 L N) 1000 Tryz.f111 (finC (.one (.sl (.sl i64))) κ))) .ret (f111_1.T0_r a) (f111_1.H0_r a)
  =f111_1.p0_r L N (fun a0=>κ (.tv (.sl (.sl i64)) a0)) a:=by kernel_rfl
theorem f111_1.b_eq (L N:Nat) (κ:AV->Option R) (a:Int) (c:LLM):
  evBody (E111_1 L N) (evCallI (E111_1 L N) 0 1000) 1000 111 Tryz.f111 [(.tv i64 a),(.fn 112 [(.imp (.sl (.sl (.st 0))) c 0)])] [] [] (finC (.one (.sl (.sl i64))) κ)
  =f111_1.b L N (fun a0=>κ (.tv (.sl (.sl i64)) a0)) a c:=by
 refine Eq.trans (b:=f111_1.b' L N (fun a0=>κ (.tv (.sl (.sl i64)) a0)) (fun d e=>evLp (E111_1 L N) (evCallI (E111_1 L N) 0 1000) 1000 111 28 0 f111_1.c0 (contAt (E111_1 L N) (evCallI (E111_1 L N) 0 1000) 1000 111 28 0 (codeOf Tryz.f111) (finK (E111_1 L N) 1000 Tryz.f111 (finC (.one (.sl (.sl i64))) κ))) L (f111_1.T0 d e) (f111_1.H0 d e)) a c) (by kernel_rfl) ?_
 unfold f111_1.b
 simp only [f111_1.l0_eq]
 delta f111_1.X0_r
 simp only [f111_1.p0_r_eq]
theorem f111_1.ok (L N:Nat) (hΦ:TellsOk Tryz.prog ((Φ144_1 L N))):EntOkO Tryz.prog 111 (f111_1.ent L N):=entDf_ok (E:=(E111_1 L N)) (dep:=1000) (f:=Tryz.f111) (sound_of hΦ) okP (callI_sound (sound_of hΦ) okP 0 1000) rfl fun d _ hy=>(f111_1.b_eq L N (unR (.one (.sl (.sl i64)))) d.1 d.2.1.1).trans (Eq.trans (b:=f111_1.b L N some d.1 d.2.1.1) (by kernel_rfl) hy)
def Φ111_1 (L N:Nat):Tells:=(addO (Φ144_1 L N) 111 (f111_1.ent L N))
theorem Φ111_1_ok (L N:Nat):TellsOk Tryz.prog (Φ111_1 L N):=addO_ok (Φ144_1_ok L N) (f111_1.ok L N (Φ144_1_ok L N))
def f69.b' (L N:Nat) (k:LLI->Option R) (a:Graph):Option R:=
 (f111_1 L N (a.moves.length:Int) a.moves).bind fun b=>
 k b
def f69.b (L N:Nat) (k:LLI->Option R) (a:Graph):Option R:=
 f69.b' L N k a
def f69 (L N:Nat) (a:Graph):Option (LLI):=f69.b L N some a
def f69.ent (L N:Nat):=entDa [(.st 2)] (.one (.sl (.sl i64))) fun d=>f69 L N d.1
noncomputable def E69 (L N:Nat):Env:={P:=Tryz.prog,ty:=tyOf,Φ:=(Φ111_1 L N),inl:=inlT,live:=lives,liveX:=livesX,L:=L,dp:=none,prom:=promT,heal:=healT,ren:=renT}
theorem f69.b_eq (L N:Nat) (κ:AV->Option R) (a:Graph):
  evBody (E69 L N) (evCallI (E69 L N) 0 1000) 1000 69 Tryz.f69 [(.tv (.st 2) a)] [] [] (finC (.one (.sl (.sl i64))) κ)
  =f69.b L N (fun a0=>κ (.tv (.sl (.sl i64)) a0)) a:=by kernel_rfl
theorem f69.ok (L N:Nat) (hΦ:TellsOk Tryz.prog ((Φ111_1 L N))):EntOk Tryz.prog 69 (f69.ent L N):=entDa_ok (E:=(E69 L N)) (dep:=1000) (f:=Tryz.f69) (sound_of hΦ) okP (callI_sound (sound_of hΦ) okP 0 1000) rfl fun d _ hy=>(f69.b_eq L N (unR (.one (.sl (.sl i64)))) d.1).trans (Eq.trans (b:=f69.b L N some d.1) (by kernel_rfl) hy)
def Φ69 (L N:Nat):Tells:=(addT (Φ111_1 L N) 69 (f69.ent L N))
theorem Φ69_ok (L N:Nat):TellsOk Tryz.prog (Φ69 L N):=addT_ok (Φ111_1_ok L N) (f69.ok L N (Φ111_1_ok L N))
def f37.b' (L N:Nat) (k:LI->Option R) (b:Graph):Option R:=
 (f69 L N (Graph.mk b.moves)).bind fun a=>
 bif (decide (0≤(wi ((a.length:Int)-(1:Int))))&&decide ((wi ((a.length:Int)-(1:Int)))<(a.length:Int))) then
  ((fclone (listAt a [] (wi ((a.length:Int)-(1:Int))).toNat))).bind fun c=>
  k (listAt a [] (wi ((a.length:Int)-(1:Int))).toNat)
 else none
def f37.b (L N:Nat) (k:LI->Option R) (a:Graph):Option R:=
 f37.b' L N k a
def f37 (L N:Nat) (a:Graph):Option (LI):=f37.b L N some a
def f37.ent (L N:Nat) (args:List AV) (vw:View) (site:Nat):Ans:=match roD [(.st 2)] vw args with
 |some d=>⟨LI,f37 L N d.1,fun y=>(RN.av site .row (),[(site,some (mkO none 3 i64 y))],[])⟩
 |none=>Ans.no
noncomputable def E37 (L N:Nat):Env:={P:=Tryz.prog,ty:=tyOf,Φ:=(Φ69 L N),inl:=inlT,live:=lives,liveX:=livesX,L:=L,dp:=none,prom:=promT,heal:=healT,ren:=renT}
theorem f37.b_eq (L N:Nat) (κ:RN.Den .row->List Int->Option R) (a:Graph):
  evBody (E37 L N) (evCallI (E37 L N) 0 1000) 1000 37 Tryz.f37 [(.tv (.st 2) a)] [] [] (finN .row none 3 i64 κ)
  =f37.b L N (fun a0=>κ () a0) a:=by kernel_rfl
theorem f37.ok (L N:Nat) (hΦ:TellsOk Tryz.prog ((Φ69 L N))):EntOk Tryz.prog 37 (f37.ent L N):=by
 intro args vw site h
 unfold f37.ent
 split
 ·rename_i d ha
  intro y hy hs
  refine call_ron (y:=y) (dep:=1000) (E:=(E37 L N)) (ts:=[(.st 2)]) (rn:=.row) (q:=none) (el:=3) (ty:=i64) (d1:=()) (xs:=y) (κ:=(fun d xs=>some xs)) (sound_of hΦ) okP (callI_sound (sound_of hΦ) okP 0 1000) (f:=Tryz.f37) rfl hs ha ?_ (fun _ _ h=>by obtain rfl:=Option.some.inj h;exact ⟨rfl,rfl⟩) rfl site
  exact (f37.b_eq L N (fun d xs=>some xs) d.1).trans (Eq.trans (b:=f37.b L N some d.1) (by kernel_rfl) hy)
 ·intro y hy
  cases hy
def Φ37 (L N:Nat):Tells:=(addT (Φ69 L N) 37 (f37.ent L N))
theorem Φ37_ok (L N:Nat):TellsOk Tryz.prog (Φ37 L N):=addT_ok (Φ69_ok L N) (f37.ok L N (Φ69_ok L N))
def f38_1.s0' (L N:Nat) (k0_e0:LI->Option R) (rec0:LLM->LM->Int->Int->LI->Option R) (d:LLM) (b:LM) (e a:Int) (c:LI):Option R:=
 bif (decide (a<e)) then
  bif (decide (0≤a)&&decide (a<(b.length:Int))) then
   bif ((listAt b (Ty.dflt (.st 0)) a.toNat).act==(0:Int)) then
    (f39 L N (Graph.mk d) ([(listAt b (Ty.dflt (.st 0)) a.toNat).to]:LI)).bind fun f=>
    bif (decide (c.length+f.length≤lim)) then
     rec0 d b e (wi (a+(1:Int))) (c++f)
    else none
   else rec0 d b e (wi (a+(1:Int))) c
  else none
 else k0_e0 c
def f38_1.s0 (L N:Nat) (k0_e0:LI->Option R) (rec0:LLM->LM->Int->Int->LI->Option R) (a:LLM) (b:LM) (c d:Int) (e:LI):Option R:=
 f38_1.s0' L N k0_e0 rec0 a b c d e
def f38_1.l0 (L N:Nat) (k0_e0:LI->Option R):Nat->LLM->LM->Int->Int->LI->Option R
 |0,_,_,_,_,_=>none
 |n+1,a,b,c,d,e=>f38_1.s0 L N k0_e0 (f38_1.l0 L N k0_e0 n) a b c d e
def f38_1.T0 (a:LLM) (b:LM) (c d:Int) (e:LI):T:=mkT 58 [(2,(.imp (.sl (.sl (.st 0))) a 0)),(7,(.row 1012)),(19,(.tv (.sl (.st 0)) b)),(20,(.tv i64 c)),(21,(.tv i64 d))]
def f38_1.H0 (b:LLM) (c:LM) (d e:Int) (a:LI):H:=[(1012,(.row 3 i64 a))]
def f38_1.T0_e0 (a:LI):T:=mkT 58 [(7,(.row 1012))]
def f38_1.H0_e0 (a:LI):H:=[(1012,(.row 3 i64 a))]
def f38_1.p0_e0' (L N:Nat) (k:LI->Option R) (a:LI):Option R:=
 k a
def f38_1.p0_e0 (L N:Nat) (k:LI->Option R) (a:LI):Option R:=
 f38_1.p0_e0' L N k a
def f38_1.s1' (L N:Nat) (k1_e2:LI->Option R) (rec1:Int->LM->Int->Int->LI->Option R) (d:Int) (b:LM) (e a:Int) (c:LI):Option R:=
 bif (decide (a<e)) then
  bif (decide (0≤a)&&decide (a<(b.length:Int))) then
   bif ((listAt b (Ty.dflt (.st 0)) a.toNat).act==d) then
    bif (decide (c.length+([(listAt b (Ty.dflt (.st 0)) a.toNat).to]:LI).length≤lim)) then
     rec1 d b e (wi (a+(1:Int))) (c++([(listAt b (Ty.dflt (.st 0)) a.toNat).to]:LI))
    else none
   else rec1 d b e (wi (a+(1:Int))) c
  else none
 else k1_e2 c
def f38_1.s1 (L N:Nat) (k1_e2:LI->Option R) (rec1:Int->LM->Int->Int->LI->Option R) (a:Int) (b:LM) (c d:Int) (e:LI):Option R:=
 f38_1.s1' L N k1_e2 rec1 a b c d e
def f38_1.l1 (L N:Nat) (k1_e2:LI->Option R):Nat->Int->LM->Int->Int->LI->Option R
 |0,_,_,_,_,_=>none
 |n+1,a,b,c,d,e=>f38_1.s1 L N k1_e2 (f38_1.l1 L N k1_e2 n) a b c d e
def f38_1.T1 (a:Int) (b:LM) (c d:Int) (e:LI):T:=mkT 58 [(1,(.tv i64 a)),(7,(.row 1012)),(41,(.tv (.sl (.st 0)) b)),(42,(.tv i64 c)),(43,(.tv i64 d))]
def f38_1.H1 (b:Int) (c:LM) (d e:Int) (a:LI):H:=[(1012,(.row 3 i64 a))]
def f38_1.T1_e2 (a:LI):T:=mkT 58 [(7,(.row 1012))]
def f38_1.H1_e2 (a:LI):H:=[(1012,(.row 3 i64 a))]
def f38_1.p1_e2' (L N:Nat) (k:LI->Option R) (a:LI):Option R:=
 k a
def f38_1.p1_e2 (L N:Nat) (k:LI->Option R) (a:LI):Option R:=
 f38_1.p1_e2' L N k a
def f38_1.b' (L N:Nat) (k:LI->Option R) (e:LLM->LM->Int->Int->LI->Option R) (f:Int->LM->Int->Int->LI->Option R) (a d:Int) (b c:LLM):Option R:=
 bif (d==(0:Int)) then
  bif (decide (0≤a)&&decide (a<(b.length:Int))) then
   e b (listAt b [] a.toNat) ((listAt b [] a.toNat).length:Int) (0:Int) ([]:LI)
  else none
 else bif (decide (0≤a)&&decide (a<(c.length:Int))) then
  f d (listAt c [] a.toNat) ((listAt c [] a.toNat).length:Int) (0:Int) ([]:LI)
 else none
def f38_1.b (L N:Nat) (k:LI->Option R) (a c:Int) (d e:LLM):Option R:=
 f38_1.b' L N k (fun f g h i j=>f38_1.l0 L N (fun l=>f38_1.p0_e0 L N k l) L f g h i j) (fun m n o p q=>f38_1.l1 L N (fun r=>f38_1.p1_e2 L N k r) L m n o p q) a c d e
def f38_1 (L N:Nat) (a c:Int) (d e:LLM):Option (LI):=f38_1.b L N some a c d e
def f38_1.ent (L N:Nat):=entDf [(.dat i64),(.dat i64),(.imp (.sl (.sl (.st 0))) 0),(.imp (.sl (.sl (.st 0))) 0)] (.one (.sl i64)) fun d=>f38_1 L N d.1 d.2.1 d.2.2.1 d.2.2.2.1
noncomputable def E38_1 (L N:Nat):Env:={P:=Tryz.prog,ty:=tyOf,Φ:=(Φ37 L N),inl:=inlT,live:=lives,liveX:=livesX,L:=L,dp:=none,prom:=promT,heal:=healT,ren:=renT}
noncomputable def f38_1.c0:Code:=loopAt 0 (codeOf Tryz.f38)
def f38_1.X0_e0 (κ:KX R):=fun a=>κ (.exit 0) (f38_1.T0_e0 a) (f38_1.H0_e0 a)
def f38_1.R0 (rec:KT R):=fun a b c d e=>rec (f38_1.T0 a b c d e) (f38_1.H0 a b c d e)
theorem f38_1.s0_eq (L N:Nat) (κ:KX R) (rec:KT R) (a:LLM) (b:LM) (c d:Int) (e:LI):
  evRd (E38_1 L N) (evCallI (E38_1 L N) 0 1000) 1000 38 58 0 f38_1.c0 κ rec (f38_1.T0 a b c d e) (f38_1.H0 a b c d e)
  =f38_1.s0 L N (f38_1.X0_e0 κ) (f38_1.R0 rec) a b c d e:=by kernel_rfl
theorem f38_1.l0_eq (L N:Nat) (κ:KX R):∀(n:Nat) (a:LLM) (b:LM) (c d:Int) (e:LI),
  evLp (E38_1 L N) (evCallI (E38_1 L N) 0 1000) 1000 38 58 0 f38_1.c0 κ n (f38_1.T0 a b c d e) (f38_1.H0 a b c d e)
  =f38_1.l0 L N (f38_1.X0_e0 κ) n a b c d e:=by
 intro n
 induction n with
 |zero=>intros;rfl
 |succ n ih=>
  intro a b c d e
  rw [evLp_succ,f38_1.s0_eq]
  delta f38_1.R0
  simp only [ih]
  rfl
theorem f38_1.p0_e0_eq (L N:Nat) (κ:AV->Option R) (a:LI):
  (contAt (E38_1 L N) (evCallI (E38_1 L N) 0 1000) 1000 38 58 0 (codeOf Tryz.f38) (finK (E38_1 L N) 1000 Tryz.f38 (finC (.one (.sl i64)) κ))) (.exit 0) (f38_1.T0_e0 a) (f38_1.H0_e0 a)
  =f38_1.p0_e0 L N (fun a0=>κ (.tv (.sl i64) a0)) a:=by kernel_rfl
noncomputable def f38_1.c1:Code:=loopAt 2 (codeOf Tryz.f38)
def f38_1.X1_e2 (κ:KX R):=fun a=>κ (.exit 2) (f38_1.T1_e2 a) (f38_1.H1_e2 a)
def f38_1.R1 (rec:KT R):=fun a b c d e=>rec (f38_1.T1 a b c d e) (f38_1.H1 a b c d e)
theorem f38_1.s1_eq (L N:Nat) (κ:KX R) (rec:KT R) (a:Int) (b:LM) (c d:Int) (e:LI):
  evRd (E38_1 L N) (evCallI (E38_1 L N) 0 1000) 1000 38 58 2 f38_1.c1 κ rec (f38_1.T1 a b c d e) (f38_1.H1 a b c d e)
  =f38_1.s1 L N (f38_1.X1_e2 κ) (f38_1.R1 rec) a b c d e:=by kernel_rfl
theorem f38_1.l1_eq (L N:Nat) (κ:KX R):∀(n:Nat) (a:Int) (b:LM) (c d:Int) (e:LI),
  evLp (E38_1 L N) (evCallI (E38_1 L N) 0 1000) 1000 38 58 2 f38_1.c1 κ n (f38_1.T1 a b c d e) (f38_1.H1 a b c d e)
  =f38_1.l1 L N (f38_1.X1_e2 κ) n a b c d e:=by
 intro n
 induction n with
 |zero=>intros;rfl
 |succ n ih=>
  intro a b c d e
  rw [evLp_succ,f38_1.s1_eq]
  delta f38_1.R1
  simp only [ih]
  rfl
theorem f38_1.p1_e2_eq (L N:Nat) (κ:AV->Option R) (a:LI):
  (contAt (E38_1 L N) (evCallI (E38_1 L N) 0 1000) 1000 38 58 2 (codeOf Tryz.f38) (finK (E38_1 L N) 1000 Tryz.f38 (finC (.one (.sl i64)) κ))) (.exit 2) (f38_1.T1_e2 a) (f38_1.H1_e2 a)
  =f38_1.p1_e2 L N (fun a0=>κ (.tv (.sl i64) a0)) a:=by kernel_rfl
theorem f38_1.b_eq (L N:Nat) (κ:AV->Option R) (a c:Int) (d e:LLM):
  evBody (E38_1 L N) (evCallI (E38_1 L N) 0 1000) 1000 38 Tryz.f38 [(.tv i64 a),(.tv i64 c),(.imp (.sl (.sl (.st 0))) d 0),(.imp (.sl (.sl (.st 0))) e 0)] [] [] (finC (.one (.sl i64)) κ)
  =f38_1.b L N (fun a0=>κ (.tv (.sl i64) a0)) a c d e:=by
 refine Eq.trans (b:=f38_1.b' L N (fun a0=>κ (.tv (.sl i64) a0)) (fun f g h i j=>evLp (E38_1 L N) (evCallI (E38_1 L N) 0 1000) 1000 38 58 0 f38_1.c0 (contAt (E38_1 L N) (evCallI (E38_1 L N) 0 1000) 1000 38 58 0 (codeOf Tryz.f38) (finK (E38_1 L N) 1000 Tryz.f38 (finC (.one (.sl i64)) κ))) L (f38_1.T0 f g h i j) (f38_1.H0 f g h i j)) (fun k l m n o=>evLp (E38_1 L N) (evCallI (E38_1 L N) 0 1000) 1000 38 58 2 f38_1.c1 (contAt (E38_1 L N) (evCallI (E38_1 L N) 0 1000) 1000 38 58 2 (codeOf Tryz.f38) (finK (E38_1 L N) 1000 Tryz.f38 (finC (.one (.sl i64)) κ))) L (f38_1.T1 k l m n o) (f38_1.H1 k l m n o)) a c d e) (by kernel_rfl) ?_
 unfold f38_1.b
 simp only [f38_1.l0_eq,f38_1.l1_eq]
 delta f38_1.X0_e0 f38_1.X1_e2
 simp only [f38_1.p0_e0_eq,f38_1.p1_e2_eq]
theorem f38_1.ok (L N:Nat) (hΦ:TellsOk Tryz.prog ((Φ37 L N))):EntOkO Tryz.prog 38 (f38_1.ent L N):=entDf_ok (E:=(E38_1 L N)) (dep:=1000) (f:=Tryz.f38) (sound_of hΦ) okP (callI_sound (sound_of hΦ) okP 0 1000) rfl fun d _ hy=>(f38_1.b_eq L N (unR (.one (.sl i64))) d.1 d.2.1 d.2.2.1 d.2.2.2.1).trans (Eq.trans (b:=f38_1.b L N some d.1 d.2.1 d.2.2.1 d.2.2.2.1) (by kernel_rfl) hy)
def Φ38_1 (L N:Nat):Tells:=(addO (Φ37 L N) 38 (f38_1.ent L N))
theorem Φ38_1_ok (L N:Nat):TellsOk Tryz.prog (Φ38_1 L N):=addO_ok (Φ37_ok L N) (f38_1.ok L N (Φ37_ok L N))
def f42_1.b' (L N:Nat) (k:Bool->Option R) (b:Int) (a:LI) (c:Move):Option R:=
 bif (decide (0≤b)&&decide (b<(a.length:Int))) then
  bif (decide (0≤c.to)&&decide (c.to<(a.length:Int))) then
   k ((listAt a (0:Int) b.toNat)==(listAt a (0:Int) c.to.toNat))
  else none
 else none
def f42_1.b (L N:Nat) (k:Bool->Option R) (a:Int) (c:LI) (d:Move):Option R:=
 f42_1.b' L N k a c d
def f42_1 (L N:Nat) (a:Int) (c:LI) (d:Move):Option (Bool):=f42_1.b L N some a c d
def f42_1.ent (L N:Nat):=entRf [(.dat i64),(.imp (.sl i64) 0),(.imp (.st 0) 0)] (.one .bool) fun d=>f42_1 L N d.1 d.2.1 d.2.2.1
noncomputable def E42_1 (L N:Nat):Env:={P:=Tryz.prog,ty:=tyOf,Φ:=(Φ38_1 L N),inl:=inlT,live:=lives,liveX:=livesX,L:=L,dp:=none,prom:=promT,heal:=healT,ren:=renT}
theorem f42_1.b_eq (L N:Nat) (κ:AV->Option R) (a:Int) (c:LI) (d:Move):
  evBody (E42_1 L N) (evCallI (E42_1 L N) 0 1000) 1000 42 Tryz.f42 [(.tv i64 a),(.imp (.sl i64) c 0),(.imp (.st 0) d 0)] [] [] (finC (.one .bool) κ)
  =f42_1.b L N (fun a0=>κ (.tv .bool a0)) a c d:=by kernel_rfl
theorem f42_1.ok (L N:Nat) (hΦ:TellsOk Tryz.prog ((Φ38_1 L N))):EntOkO Tryz.prog 42 (f42_1.ent L N):=entRf_ok (E:=(E42_1 L N)) (dep:=1000) (f:=Tryz.f42) (sound_of hΦ) okP (callI_sound (sound_of hΦ) okP 0 1000) rfl rfl fun d _ hy=>(f42_1.b_eq L N (unR (.one .bool)) d.1 d.2.1 d.2.2.1).trans (Eq.trans (b:=f42_1.b L N some d.1 d.2.1 d.2.2.1) (by kernel_rfl) hy)
def Φ42_1 (L N:Nat):Tells:=(addO (Φ38_1 L N) 42 (f42_1.ent L N))
theorem Φ42_1_ok (L N:Nat):TellsOk Tryz.prog (Φ42_1 L N):=addO_ok (Φ38_1_ok L N) (f42_1.ok L N (Φ38_1_ok L N))
def f72_1.s0' (L N:Nat) (k0_e0:Option R) (k0_r:Int->Option R) (rec0:LI->LI->Move->Int->Int->Option R) (b c:LI) (d:Move) (e a:Int):Option R:=
 bif (decide (a<e)) then
  bif (decide (0≤a)&&decide (a<(b.length:Int))) then
   (f42_1 L N (listAt b (0:Int) a.toNat) c d).bind fun f=>
   bif f then
    k0_r a
   else rec0 b c d e (wi (a+(1:Int)))
  else none
 else k0_e0
def f72_1.s0 (L N:Nat) (k0_e0:Option R) (k0_r:Int->Option R) (rec0:LI->LI->Move->Int->Int->Option R) (a b:LI) (c:Move) (d e:Int):Option R:=
 f72_1.s0' L N k0_e0 k0_r rec0 a b c d e
def f72_1.l0 (L N:Nat) (k0_e0:Option R) (k0_r:Int->Option R):Nat->LI->LI->Move->Int->Int->Option R
 |0,_,_,_,_,_=>none
 |n+1,a,b,c,d,e=>f72_1.s0 L N k0_e0 k0_r (f72_1.l0 L N k0_e0 k0_r n) a b c d e
def f72_1.T0 (a b:LI) (c:Move) (d e:Int):T:=mkT 19 [(0,(.tv (.sl i64) a)),(1,(.fn 42 [(.imp (.sl i64) b 0),(.imp (.st 0) c 0)])),(7,(.tv i64 d)),(8,(.tv i64 e))]
def f72_1.H0 (a b:LI) (c:Move) (d e:Int):H:=[]
def f72_1.T0_e0:T:=mkT 19 []
def f72_1.H0_e0:H:=[]
def f72_1.T0_r (a:Int):T:=mkT 19 [(4,(.tv i64 a))]
def f72_1.H0_r (a:Int):H:=[]
def f72_1.p0_e0' (L N:Nat) (k:Int->Option R):Option R:=
 k (-1:Int)
def f72_1.p0_e0 (L N:Nat) (k:Int->Option R):Option R:=
 f72_1.p0_e0' L N k
def f72_1.p0_r' (L N:Nat) (k:Int->Option R) (a:Int):Option R:=
 k a
def f72_1.p0_r (L N:Nat) (k:Int->Option R) (a:Int):Option R:=
 f72_1.p0_r' L N k a
def f72_1.b' (L N:Nat) (k:Int->Option R) (b:LI->LI->Move->Int->Int->Option R) (a c:LI) (d:Move):Option R:=
 b a c d (a.length:Int) (0:Int)
def f72_1.b (L N:Nat) (k:Int->Option R) (a c:LI) (d:Move):Option R:=
 f72_1.b' L N k (fun e f g h i=>f72_1.l0 L N (f72_1.p0_e0 L N k) (fun j=>f72_1.p0_r L N k j) L e f g h i) a c d
def f72_1 (L N:Nat) (a c:LI) (d:Move):Option (Int):=f72_1.b L N some a c d
def f72_1.ent (L N:Nat):=entRf [(.dat (.sl i64)),(.fn 42 [(.imp (.sl i64) 0),(.imp (.st 0) 0)])] (.one i64) fun d=>f72_1 L N d.1 d.2.1.1 d.2.1.2.1
noncomputable def E72_1 (L N:Nat):Env:={P:=Tryz.prog,ty:=tyOf,Φ:=(Φ42_1 L N),inl:=inlT,live:=lives,liveX:=livesX,L:=L,dp:=none,prom:=promT,heal:=healT,ren:=renT}
noncomputable def f72_1.c0:Code:=loopAt 0 (codeOf Tryz.f72)
def f72_1.X0_e0 (κ:KX R):=κ (.exit 0) f72_1.T0_e0 f72_1.H0_e0
def f72_1.X0_r (κ:KX R):=fun a=>κ .ret (f72_1.T0_r a) (f72_1.H0_r a)
def f72_1.R0 (rec:KT R):=fun a b c d e=>rec (f72_1.T0 a b c d e) (f72_1.H0 a b c d e)
theorem f72_1.s0_eq (L N:Nat) (κ:KX R) (rec:KT R) (a b:LI) (c:Move) (d e:Int):
  evRd (E72_1 L N) (evCallI (E72_1 L N) 0 1000) 1000 72 19 0 f72_1.c0 κ rec (f72_1.T0 a b c d e) (f72_1.H0 a b c d e)
  =f72_1.s0 L N (f72_1.X0_e0 κ) (f72_1.X0_r κ) (f72_1.R0 rec) a b c d e:=by kernel_rfl
theorem f72_1.l0_eq (L N:Nat) (κ:KX R):∀(n:Nat) (a b:LI) (c:Move) (d e:Int),
  evLp (E72_1 L N) (evCallI (E72_1 L N) 0 1000) 1000 72 19 0 f72_1.c0 κ n (f72_1.T0 a b c d e) (f72_1.H0 a b c d e)
  =f72_1.l0 L N (f72_1.X0_e0 κ) (f72_1.X0_r κ) n a b c d e:=by
 intro n
 induction n with
 |zero=>intros;rfl
 |succ n ih=>
  intro a b c d e
  rw [evLp_succ,f72_1.s0_eq]
  delta f72_1.R0
  simp only [ih]
  rfl
theorem f72_1.p0_e0_eq (L N:Nat) (κ:AV->Option R):
  (contAt (E72_1 L N) (evCallI (E72_1 L N) 0 1000) 1000 72 19 0 (codeOf Tryz.f72) (finK (E72_1 L N) 1000 Tryz.f72 (finC (.one i64) κ))) (.exit 0) f72_1.T0_e0 f72_1.H0_e0
  =f72_1.p0_e0 L N (fun a0=>κ (.tv i64 a0)):=by kernel_rfl
theorem f72_1.p0_r_eq (L N:Nat) (κ:AV->Option R) (a:Int):
  (contAt (E72_1 L N) (evCallI (E72_1 L N) 0 1000) 1000 72 19 0 (codeOf Tryz.f72) (finK (E72_1 L N) 1000 Tryz.f72 (finC (.one i64) κ))) .ret (f72_1.T0_r a) (f72_1.H0_r a)
  =f72_1.p0_r L N (fun a0=>κ (.tv i64 a0)) a:=by kernel_rfl
theorem f72_1.b_eq (L N:Nat) (κ:AV->Option R) (a c:LI) (d:Move):
  evBody (E72_1 L N) (evCallI (E72_1 L N) 0 1000) 1000 72 Tryz.f72 [(.tv (.sl i64) a),(.fn 42 [(.imp (.sl i64) c 0),(.imp (.st 0) d 0)])] [] [] (finC (.one i64) κ)
  =f72_1.b L N (fun a0=>κ (.tv i64 a0)) a c d:=by
 refine Eq.trans (b:=f72_1.b' L N (fun a0=>κ (.tv i64 a0)) (fun e f g h i=>evLp (E72_1 L N) (evCallI (E72_1 L N) 0 1000) 1000 72 19 0 f72_1.c0 (contAt (E72_1 L N) (evCallI (E72_1 L N) 0 1000) 1000 72 19 0 (codeOf Tryz.f72) (finK (E72_1 L N) 1000 Tryz.f72 (finC (.one i64) κ))) L (f72_1.T0 e f g h i) (f72_1.H0 e f g h i)) a c d) (by kernel_rfl) ?_
 unfold f72_1.b
 simp only [f72_1.l0_eq]
 delta f72_1.X0_e0 f72_1.X0_r
 simp only [f72_1.p0_e0_eq,f72_1.p0_r_eq]
theorem f72_1.ok (L N:Nat) (hΦ:TellsOk Tryz.prog ((Φ42_1 L N))):EntOkO Tryz.prog 72 (f72_1.ent L N):=entRf_ok (E:=(E72_1 L N)) (dep:=1000) (f:=Tryz.f72) (sound_of hΦ) okP (callI_sound (sound_of hΦ) okP 0 1000) rfl rfl fun d _ hy=>(f72_1.b_eq L N (unR (.one i64)) d.1 d.2.1.1 d.2.1.2.1).trans (Eq.trans (b:=f72_1.b L N some d.1 d.2.1.1 d.2.1.2.1) (by kernel_rfl) hy)
def Φ72_1 (L N:Nat):Tells:=(addO (Φ42_1 L N) 72 (f72_1.ent L N))
theorem Φ72_1_ok (L N:Nat):TellsOk Tryz.prog (Φ72_1 L N):=addO_ok (Φ42_1_ok L N) (f72_1.ok L N (Φ42_1_ok L N))
def f41_1.b' (L N:Nat) (k:Bool->Option R) (a b:LI) (c:Move):Option R:=
 (f72_1 L N a b c).bind fun d=>
 k (decide (d≥(0:Int)))
def f41_1.b (L N:Nat) (k:Bool->Option R) (a c:LI) (d:Move):Option R:=
 f41_1.b' L N k a c d
def f41_1 (L N:Nat) (a c:LI) (d:Move):Option (Bool):=f41_1.b L N some a c d
def f41_1.ent (L N:Nat):=entRf [(.dat (.sl i64)),(.fn 42 [(.imp (.sl i64) 0),(.imp (.st 0) 0)])] (.one .bool) fun d=>f41_1 L N d.1 d.2.1.1 d.2.1.2.1
noncomputable def E41_1 (L N:Nat):Env:={P:=Tryz.prog,ty:=tyOf,Φ:=(Φ72_1 L N),inl:=inlT,live:=lives,liveX:=livesX,L:=L,dp:=none,prom:=promT,heal:=healT,ren:=renT}
theorem f41_1.b_eq (L N:Nat) (κ:AV->Option R) (a c:LI) (d:Move):
  evBody (E41_1 L N) (evCallI (E41_1 L N) 0 1000) 1000 41 Tryz.f41 [(.tv (.sl i64) a),(.fn 42 [(.imp (.sl i64) c 0),(.imp (.st 0) d 0)])] [] [] (finC (.one .bool) κ)
  =f41_1.b L N (fun a0=>κ (.tv .bool a0)) a c d:=by kernel_rfl
theorem f41_1.ok (L N:Nat) (hΦ:TellsOk Tryz.prog ((Φ72_1 L N))):EntOkO Tryz.prog 41 (f41_1.ent L N):=entRf_ok (E:=(E41_1 L N)) (dep:=1000) (f:=Tryz.f41) (sound_of hΦ) okP (callI_sound (sound_of hΦ) okP 0 1000) rfl rfl fun d _ hy=>(f41_1.b_eq L N (unR (.one .bool)) d.1 d.2.1.1 d.2.1.2.1).trans (Eq.trans (b:=f41_1.b L N some d.1 d.2.1.1 d.2.1.2.1) (by kernel_rfl) hy)
def Φ41_1 (L N:Nat):Tells:=(addO (Φ72_1 L N) 41 (f41_1.ent L N))
theorem Φ41_1_ok (L N:Nat):TellsOk Tryz.prog (Φ41_1 L N):=addO_ok (Φ72_1_ok L N) (f41_1.ok L N (Φ72_1_ok L N))
def f40_1.s0' (L N:Nat) (k0_e0:Option R) (k0_r:Bool->Option R) (rec0:Int->LLM->LLM->LI->LM->Int->Int->Option R) (c:Int) (d e:LLM) (f:LI) (b:LM) (g a:Int):Option R:=
 bif (decide (a<g)) then
  bif (decide (0≤a)&&decide (a<(b.length:Int))) then
   (f38_1 L N c ((listAt b (Ty.dflt (.st 0)) a.toNat).act) d e).bind fun h=>
   (f41_1 L N h f (Move.mk ((listAt b (Ty.dflt (.st 0)) a.toNat).act) ((listAt b (Ty.dflt (.st 0)) a.toNat).to))).bind fun i=>
   bif (!i) then
    k0_r false
   else rec0 c d e f b g (wi (a+(1:Int)))
  else none
 else k0_e0
def f40_1.s0 (L N:Nat) (k0_e0:Option R) (k0_r:Bool->Option R) (rec0:Int->LLM->LLM->LI->LM->Int->Int->Option R) (a:Int) (b c:LLM) (d:LI) (e:LM) (f g:Int):Option R:=
 f40_1.s0' L N k0_e0 k0_r rec0 a b c d e f g
def f40_1.l0 (L N:Nat) (k0_e0:Option R) (k0_r:Bool->Option R):Nat->Int->LLM->LLM->LI->LM->Int->Int->Option R
 |0,_,_,_,_,_,_,_=>none
 |n+1,a,b,c,d,e,f,g=>f40_1.s0 L N k0_e0 k0_r (f40_1.l0 L N k0_e0 k0_r n) a b c d e f g
def f40_1.T0 (a:Int) (b c:LLM) (d:LI) (e:LM) (f g:Int):T:=mkT 29 [(1,(.tv i64 a)),(3,(.imf 38 [(.imp (.sl (.sl (.st 0))) b 0),(.imp (.sl (.sl (.st 0))) c 0)])),(4,(.imp (.sl i64) d 0)),(14,(.tv (.sl (.st 0)) e)),(15,(.tv i64 f)),(16,(.tv i64 g))]
def f40_1.H0 (a:Int) (b c:LLM) (d:LI) (e:LM) (f g:Int):H:=[]
def f40_1.T0_e0:T:=mkT 29 []
def f40_1.H0_e0:H:=[]
def f40_1.T0_r (a:Bool):T:=mkT 29 [(7,(.tv .bool a))]
def f40_1.H0_r (a:Bool):H:=[]
def f40_1.p0_e0' (L N:Nat) (k:Bool->Option R):Option R:=
 k true
def f40_1.p0_e0 (L N:Nat) (k:Bool->Option R):Option R:=
 f40_1.p0_e0' L N k
def f40_1.p0_r' (L N:Nat) (k:Bool->Option R) (a:Bool):Option R:=
 k a
def f40_1.p0_r (L N:Nat) (k:Bool->Option R) (a:Bool):Option R:=
 f40_1.p0_r' L N k a
def f40_1.b' (L N:Nat) (k:Bool->Option R) (c:Int->LLM->LLM->LI->LM->Int->Int->Option R) (a d:Int) (b e f:LLM) (g:LI):Option R:=
 bif (decide (0≤a)&&decide (a<(b.length:Int))) then
  c d e f g (listAt b [] a.toNat) ((listAt b [] a.toNat).length:Int) (0:Int)
 else none
def f40_1.b (L N:Nat) (k:Bool->Option R) (a c:Int) (d e f:LLM) (g:LI):Option R:=
 f40_1.b' L N k (fun h i j l m n o=>f40_1.l0 L N (f40_1.p0_e0 L N k) (fun p=>f40_1.p0_r L N k p) L h i j l m n o) a c d e f g
def f40_1 (L N:Nat) (a c:Int) (d e f:LLM) (g:LI):Option (Bool):=f40_1.b L N some a c d e f g
def f40_1.ent (L N:Nat):=entRf [(.dat i64),(.dat i64),(.imp (.sl (.sl (.st 0))) 0),(.pfn 38 [(.imp (.sl (.sl (.st 0))) 0),(.imp (.sl (.sl (.st 0))) 0)]),(.imp (.sl i64) 0)] (.one .bool) fun d=>f40_1 L N d.1 d.2.1 d.2.2.1 d.2.2.2.1.1 d.2.2.2.1.2.1 d.2.2.2.2.1
noncomputable def E40_1 (L N:Nat):Env:={P:=Tryz.prog,ty:=tyOf,Φ:=(Φ41_1 L N),inl:=inlT,live:=lives,liveX:=livesX,L:=L,dp:=none,prom:=promT,heal:=healT,ren:=renT}
noncomputable def f40_1.c0:Code:=loopAt 0 (codeOf Tryz.f40)
def f40_1.X0_e0 (κ:KX R):=κ (.exit 0) f40_1.T0_e0 f40_1.H0_e0
def f40_1.X0_r (κ:KX R):=fun a=>κ .ret (f40_1.T0_r a) (f40_1.H0_r a)
def f40_1.R0 (rec:KT R):=fun a b c d e f g=>rec (f40_1.T0 a b c d e f g) (f40_1.H0 a b c d e f g)
theorem f40_1.s0_eq (L N:Nat) (κ:KX R) (rec:KT R) (a:Int) (b c:LLM) (d:LI) (e:LM) (f g:Int):
  evRd (E40_1 L N) (evCallI (E40_1 L N) 0 1000) 1000 40 29 0 f40_1.c0 κ rec (f40_1.T0 a b c d e f g) (f40_1.H0 a b c d e f g)
  =f40_1.s0 L N (f40_1.X0_e0 κ) (f40_1.X0_r κ) (f40_1.R0 rec) a b c d e f g:=by kernel_rfl
theorem f40_1.l0_eq (L N:Nat) (κ:KX R):∀(n:Nat) (a:Int) (b c:LLM) (d:LI) (e:LM) (f g:Int),
  evLp (E40_1 L N) (evCallI (E40_1 L N) 0 1000) 1000 40 29 0 f40_1.c0 κ n (f40_1.T0 a b c d e f g) (f40_1.H0 a b c d e f g)
  =f40_1.l0 L N (f40_1.X0_e0 κ) (f40_1.X0_r κ) n a b c d e f g:=by
 intro n
 induction n with
 |zero=>intros;rfl
 |succ n ih=>
  intro a b c d e f g
  rw [evLp_succ,f40_1.s0_eq]
  delta f40_1.R0
  simp only [ih]
  rfl
theorem f40_1.p0_e0_eq (L N:Nat) (κ:AV->Option R):
  (contAt (E40_1 L N) (evCallI (E40_1 L N) 0 1000) 1000 40 29 0 (codeOf Tryz.f40) (finK (E40_1 L N) 1000 Tryz.f40 (finC (.one .bool) κ))) (.exit 0) f40_1.T0_e0 f40_1.H0_e0
  =f40_1.p0_e0 L N (fun a0=>κ (.tv .bool a0)):=by kernel_rfl
theorem f40_1.p0_r_eq (L N:Nat) (κ:AV->Option R) (a:Bool):
  (contAt (E40_1 L N) (evCallI (E40_1 L N) 0 1000) 1000 40 29 0 (codeOf Tryz.f40) (finK (E40_1 L N) 1000 Tryz.f40 (finC (.one .bool) κ))) .ret (f40_1.T0_r a) (f40_1.H0_r a)
  =f40_1.p0_r L N (fun a0=>κ (.tv .bool a0)) a:=by kernel_rfl
theorem f40_1.b_eq (L N:Nat) (κ:AV->Option R) (a c:Int) (d e f:LLM) (g:LI):
  evBody (E40_1 L N) (evCallI (E40_1 L N) 0 1000) 1000 40 Tryz.f40 [(.tv i64 a),(.tv i64 c),(.imp (.sl (.sl (.st 0))) d 0),(.imf 38 [(.imp (.sl (.sl (.st 0))) e 0),(.imp (.sl (.sl (.st 0))) f 0)]),(.imp (.sl i64) g 0)] [] [] (finC (.one .bool) κ)
  =f40_1.b L N (fun a0=>κ (.tv .bool a0)) a c d e f g:=by
 refine Eq.trans (b:=f40_1.b' L N (fun a0=>κ (.tv .bool a0)) (fun h i j k l m n=>evLp (E40_1 L N) (evCallI (E40_1 L N) 0 1000) 1000 40 29 0 f40_1.c0 (contAt (E40_1 L N) (evCallI (E40_1 L N) 0 1000) 1000 40 29 0 (codeOf Tryz.f40) (finK (E40_1 L N) 1000 Tryz.f40 (finC (.one .bool) κ))) L (f40_1.T0 h i j k l m n) (f40_1.H0 h i j k l m n)) a c d e f g) (by kernel_rfl) ?_
 unfold f40_1.b
 simp only [f40_1.l0_eq]
 delta f40_1.X0_e0 f40_1.X0_r
 simp only [f40_1.p0_e0_eq,f40_1.p0_r_eq]
theorem f40_1.ok (L N:Nat) (hΦ:TellsOk Tryz.prog ((Φ41_1 L N))):EntOkO Tryz.prog 40 (f40_1.ent L N):=entRf_ok (E:=(E40_1 L N)) (dep:=1000) (f:=Tryz.f40) (sound_of hΦ) okP (callI_sound (sound_of hΦ) okP 0 1000) rfl rfl fun d _ hy=>(f40_1.b_eq L N (unR (.one .bool)) d.1 d.2.1 d.2.2.1 d.2.2.2.1.1 d.2.2.2.1.2.1 d.2.2.2.2.1).trans (Eq.trans (b:=f40_1.b L N some d.1 d.2.1 d.2.2.1 d.2.2.2.1.1 d.2.2.2.1.2.1 d.2.2.2.2.1) (by kernel_rfl) hy)
def Φ40_1 (L N:Nat):Tells:=(addO (Φ41_1 L N) 40 (f40_1.ent L N))
theorem Φ40_1_ok (L N:Nat):TellsOk Tryz.prog (Φ40_1 L N):=addO_ok (Φ41_1_ok L N) (f40_1.ok L N (Φ41_1_ok L N))
def f11.b' (L N:Nat) (k:Bool->Bool->Option R) (b c:Tree) (f:LT):Option R:=
 (f35 L N (Tree.mk b.op b.n b.parts) (Tree.mk c.op c.n c.parts) f).bind fun a=>
 bif (!a.2.2) then
  k false false
 else (f36 L N (Graph.mk a.1.moves)).bind fun d=>
 (f37 L N (Graph.mk d.moves)).bind fun e=>
 (f40_1 L N (0:Int) a.2.1 a.1.moves a.1.moves d.moves e).bind fun g=>
 bif g then
  (f40_1 L N a.2.1 (0:Int) a.1.moves a.1.moves d.moves e).bind fun h=>
  k h true
 else k false true
def f11.b (L N:Nat) (k:Bool->Bool->Option R) (a c:Tree) (d:LT):Option R:=
 f11.b' L N k a c d
def f11 (L N:Nat) (a c:Tree) (d:LT):Option (Bool×Bool):=f11.b L N (fun a0 a1=>some (a0,a1)) a c d
def f11.ent (L N:Nat):=entRo [(.st 1),(.st 1),(.sl (.st 1))] (.many [.bool,.bool]) fun d=>f11 L N d.1 d.2.1 d.2.2.1
noncomputable def E11 (L N:Nat):Env:={P:=Tryz.prog,ty:=tyOf,Φ:=(Φ40_1 L N),inl:=inlT,live:=lives,liveX:=livesX,L:=L,dp:=none,prom:=promT,heal:=healT,ren:=renT}
theorem f11.b_eq (L N:Nat) (κ:AV->Option R) (a c:Tree) (d:LT):
  evBody (E11 L N) (evCallI (E11 L N) 0 1000) 1000 11 Tryz.f11 [(.tv (.st 1) a),(.tv (.st 1) c),(.tv (.sl (.st 1)) d)] [] [] (finC (.many [.bool,.bool]) κ)
  =f11.b L N (fun a0 a1=>κ (.tup [(.tv .bool a0),(.tv .bool a1)])) a c d:=by kernel_rfl
theorem f11.ok (L N:Nat) (hΦ:TellsOk Tryz.prog ((Φ40_1 L N))):EntOk Tryz.prog 11 (f11.ent L N):=entRo_ok (E:=(E11 L N)) (dep:=1000) (f:=Tryz.f11) (sound_of hΦ) okP (callI_sound (sound_of hΦ) okP 0 1000) rfl rfl fun d _ hy=>(f11.b_eq L N (unR (.many [.bool,.bool])) d.1 d.2.1 d.2.2.1).trans (Eq.trans (b:=f11.b L N (fun a0 a1=>some (a0,a1)) d.1 d.2.1 d.2.2.1) (by kernel_rfl) hy)
def Φ11 (L N:Nat):Tells:=(addT (Φ40_1 L N) 11 (f11.ent L N))
theorem Φ11_ok (L N:Nat):TellsOk Tryz.prog (Φ11 L N):=addT_ok (Φ40_1_ok L N) (f11.ok L N (Φ40_1_ok L N))
def f97.j0' (L N:Nat) (self97:Tree->Bool->Option (Int)) (k0_e0:Int->Option R) (rec0:Bool->Int->Int->Int->Int->LT->Option R) (c:Bool) (d a:Int) (f g:Int) (b:LT):Option R:=
 bif (decide (0≤a)&&decide (a<(b.length:Int))) then
  (self97 (listAt b (Ty.dflt (.st 1)) a.toNat) c).bind fun e=>
  rec0 c (bif decide (e>d) then e else d) (wi (a+(1:Int))) f g b
 else none
def f97.s0' (L N:Nat) (self97:Tree->Bool->Option (Int)) (k0_e0:Int->Option R) (rec0:Bool->Int->Int->Int->Int->LT->Option R) (b:Bool) (a c:Int) (d f:Int) (e:LT):Option R:=
 bif (decide (c<(e.length:Int))) then
  bif b then
   bif (!(d==(1:Int))) then
    f97.j0' L N self97 k0_e0 rec0 b a c d f e
   else k0_e0 a
  else bif (!false) then
   f97.j0' L N self97 k0_e0 rec0 b a c d f e
  else k0_e0 a
 else k0_e0 a
def f97.s0 (L N:Nat) (self97:Tree->Bool->Option (Int)) (k0_e0:Int->Option R) (rec0:Bool->Int->Int->Int->Int->LT->Option R) (a:Bool) (b c:Int) (d e:Int) (f:LT):Option R:=
 f97.s0' L N self97 k0_e0 rec0 a b c d e f
def f97.l0 (L N:Nat) (self97:Tree->Bool->Option (Int)) (k0_e0:Int->Option R):Nat->Bool->Int->Int->Int->Int->LT->Option R
 |0,_,_,_,_,_,_=>none
 |n+1,a,b,c,d,e,f=>f97.s0 L N self97 k0_e0 (f97.l0 L N self97 k0_e0 n) a b c d e f
def f97.T0 (a:Bool) (b c:Int) (d e:Int) (f:LT):T:=mkT 38 [(1,(.tv .bool a)),(2,(.ptr 1002 0)),(5,(.tv i64 b)),(6,(.tv i64 c))]
def f97.H0 (d:Bool) (e f:Int) (a b:Int) (c:LT):H:=[(1002,(.box [(.tv i64 a),(.tv i64 b),(.tv (.sl (.st 1)) c)]))]
def f97.T0_e0 (a:Int):T:=mkT 38 [(5,(.tv i64 a))]
def f97.H0_e0 (a:Int):H:=[]
def f97.p0_e0' (L N:Nat) (self97:Tree->Bool->Option (Int)) (k:Int->Option R) (a:Int):Option R:=
 k a
def f97.p0_e0 (L N:Nat) (self97:Tree->Bool->Option (Int)) (k:Int->Option R) (a:Int):Option R:=
 f97.p0_e0' L N self97 k a
def f97.b' (L N:Nat) (self97:Tree->Bool->Option (Int)) (k:Int->Option R) (b:Bool->Int->Int->Int->Int->LT->Option R) (a:Tree) (c:Bool):Option R:=
 bif (a.op==(5:Int)) then
  k a.n
 else b c (-1:Int) (0:Int) a.op a.n a.parts
def f97.b (L N:Nat) (self97:Tree->Bool->Option (Int)) (k:Int->Option R) (a:Tree) (c:Bool):Option R:=
 f97.b' L N self97 k (fun d e f g h i=>f97.l0 L N self97 (fun j=>f97.p0_e0 L N self97 k j) L d e f g h i) a c
def f97 (L N:Nat):Nat->Tree->Bool->Option (Int)
 |0,_,_=>none
 |n+1,a,c=>f97.b L N (f97 L N n) some a c
def f97.ent (L N m:Nat):=entRo [(.st 1),.bool] (.one i64) fun d=>f97 L N m d.1 d.2.1
def Φ97s (L N m:Nat):Tells:=(addT (Φ11 L N) 97 (f97.ent L N m))
noncomputable def E97 (L N m:Nat):Env:={P:=Tryz.prog,ty:=tyOf,Φ:=Φ97s L N m,inl:=inlT,live:=lives,liveX:=livesX,L:=L,dp:=none,prom:=promT,heal:=healT,ren:=renT}
noncomputable def f97.c0:Code:=loopAt 0 (codeOf Tryz.f97)
def f97.X0_e0 (κ:KX R):=fun a=>κ (.exit 0) (f97.T0_e0 a) (f97.H0_e0 a)
def f97.R0 (rec:KT R):=fun a b c d e f=>rec (f97.T0 a b c d e f) (f97.H0 a b c d e f)
theorem f97.s0_eq (L N m:Nat) (κ:KX R) (rec:KT R) (a:Bool) (b c:Int) (d e:Int) (f:LT):
  evRd (E97 L N m) (evCallI (E97 L N m) 0 1000) 1000 97 38 0 f97.c0 κ rec (f97.T0 a b c d e f) (f97.H0 a b c d e f)
  =f97.s0 L N (f97 L N m) (f97.X0_e0 κ) (f97.R0 rec) a b c d e f:=by kernel_rfl
theorem f97.l0_eq (L N m:Nat) (κ:KX R):∀(n:Nat) (a:Bool) (b c:Int) (d e:Int) (f:LT),
  evLp (E97 L N m) (evCallI (E97 L N m) 0 1000) 1000 97 38 0 f97.c0 κ n (f97.T0 a b c d e f) (f97.H0 a b c d e f)
  =f97.l0 L N (f97 L N m) (f97.X0_e0 κ) n a b c d e f:=by
 intro n
 induction n with
 |zero=>intros;rfl
 |succ n ih=>
  intro a b c d e f
  rw [evLp_succ,f97.s0_eq]
  delta f97.R0
  simp only [ih]
  rfl
theorem f97.p0_e0_eq (L N m:Nat) (κ:AV->Option R) (a:Int):
  (contAt (E97 L N m) (evCallI (E97 L N m) 0 1000) 1000 97 38 0 (codeOf Tryz.f97) (finK (E97 L N m) 1000 Tryz.f97 (finC (.one i64) κ))) (.exit 0) (f97.T0_e0 a) (f97.H0_e0 a)
  =f97.p0_e0 L N (f97 L N m) (fun a0=>κ (.tv i64 a0)) a:=by kernel_rfl
theorem f97.b_eq (L N m:Nat) (κ:AV->Option R) (a:Tree) (c:Bool):
  evBody (E97 L N m) (evCallI (E97 L N m) 0 1000) 1000 97 Tryz.f97 [(.tv (.st 1) a),(.tv .bool c)] [] [] (finC (.one i64) κ)
  =f97.b L N (f97 L N m) (fun a0=>κ (.tv i64 a0)) a c:=by
 refine Eq.trans (b:=f97.b' L N (f97 L N m) (fun a0=>κ (.tv i64 a0)) (fun d e f g h i=>evLp (E97 L N m) (evCallI (E97 L N m) 0 1000) 1000 97 38 0 f97.c0 (contAt (E97 L N m) (evCallI (E97 L N m) 0 1000) 1000 97 38 0 (codeOf Tryz.f97) (finK (E97 L N m) 1000 Tryz.f97 (finC (.one i64) κ))) L (f97.T0 d e f g h i) (f97.H0 d e f g h i)) a c) (by kernel_rfl) ?_
 unfold f97.b
 simp only [f97.l0_eq]
 delta f97.X0_e0
 simp only [f97.p0_e0_eq]
theorem f97.ok (L N m:Nat) (hΦ:TellsOk Tryz.prog (Φ97s L N m)):EntOk Tryz.prog 97 (f97.ent L N (m+1)):=entRo_ok (E:=(E97 L N m)) (dep:=1000) (f:=Tryz.f97) (sound_of hΦ) okP (callI_sound (sound_of hΦ) okP 0 1000) rfl rfl fun d _ hy=>(f97.b_eq L N m (unR (.one i64)) d.1 d.2.1).trans (Eq.trans (b:=f97.b L N (f97 L N m) some d.1 d.2.1) (by kernel_rfl) hy)
theorem Φ97s_ok (L N:Nat):∀m,TellsOk Tryz.prog (Φ97s L N m):=by
 intro m
 induction m with
 |zero=>exact (addT_ok (Φ11_ok L N) (entRo_no fun _=>rfl))
 |succ m ih=>exact (addT_ok (Φ11_ok L N) (f97.ok L N m ih))
def Φ97 (L N:Nat):Tells:=(addT (Φ11 L N) 97 (f97.ent L N N))
theorem Φ97_ok (L N:Nat):TellsOk Tryz.prog (Φ97 L N):=Φ97s_ok L N N
def f54.b' (L N:Nat) (k:Bool->Option R) (a b c:Int):Option R:=
 bif (decide (a≥b)) then
  k (decide (a≤c))
 else k false
def f54.b (L N:Nat) (k:Bool->Option R) (a c d:Int):Option R:=
 f54.b' L N k a c d
def f54 (L N:Nat) (a c d:Int):Option (Bool):=f54.b L N some a c d
def f54.ent (L N:Nat):=entRo [i64,i64,i64] (.one .bool) fun d=>f54 L N d.1 d.2.1 d.2.2.1
noncomputable def E54 (L N:Nat):Env:={P:=Tryz.prog,ty:=tyOf,Φ:=(Φ97 L N),inl:=inlT,live:=lives,liveX:=livesX,L:=L,dp:=none,prom:=promT,heal:=healT,ren:=renT}
theorem f54.b_eq (L N:Nat) (κ:AV->Option R) (a c d:Int):
  evBody (E54 L N) (evCallI (E54 L N) 0 1000) 1000 54 Tryz.f54 [(.tv i64 a),(.tv i64 c),(.tv i64 d)] [] [] (finC (.one .bool) κ)
  =f54.b L N (fun a0=>κ (.tv .bool a0)) a c d:=by kernel_rfl
theorem f54.ok (L N:Nat) (hΦ:TellsOk Tryz.prog ((Φ97 L N))):EntOk Tryz.prog 54 (f54.ent L N):=entRo_ok (E:=(E54 L N)) (dep:=1000) (f:=Tryz.f54) (sound_of hΦ) okP (callI_sound (sound_of hΦ) okP 0 1000) rfl rfl fun d _ hy=>(f54.b_eq L N (unR (.one .bool)) d.1 d.2.1 d.2.2.1).trans (Eq.trans (b:=f54.b L N some d.1 d.2.1 d.2.2.1) (by kernel_rfl) hy)
def Φ54 (L N:Nat):Tells:=(addT (Φ97 L N) 54 (f54.ent L N))
theorem Φ54_ok (L N:Nat):TellsOk Tryz.prog (Φ54 L N):=addT_ok (Φ97_ok L N) (f54.ok L N (Φ97_ok L N))
def f118.b' (L N:Nat) (k:Bool->Option R) (a:Int):Option R:=
 (f54 L N a (-4:Int) (4:Int)).bind fun b=>
 k b
def f118.b (L N:Nat) (k:Bool->Option R) (a:Int):Option R:=
 f118.b' L N k a
def f118 (L N:Nat) (a:Int):Option (Bool):=f118.b L N some a
def f118.ent (L N:Nat):=entRo [i64] (.one .bool) fun d=>f118 L N d.1
noncomputable def E118 (L N:Nat):Env:={P:=Tryz.prog,ty:=tyOf,Φ:=(Φ54 L N),inl:=inlT,live:=lives,liveX:=livesX,L:=L,dp:=none,prom:=promT,heal:=healT,ren:=renT}
theorem f118.b_eq (L N:Nat) (κ:AV->Option R) (a:Int):
  evBody (E118 L N) (evCallI (E118 L N) 0 1000) 1000 118 Tryz.f118 [(.tv i64 a)] [] [] (finC (.one .bool) κ)
  =f118.b L N (fun a0=>κ (.tv .bool a0)) a:=by kernel_rfl
theorem f118.ok (L N:Nat) (hΦ:TellsOk Tryz.prog ((Φ54 L N))):EntOk Tryz.prog 118 (f118.ent L N):=entRo_ok (E:=(E118 L N)) (dep:=1000) (f:=Tryz.f118) (sound_of hΦ) okP (callI_sound (sound_of hΦ) okP 0 1000) rfl rfl fun d _ hy=>(f118.b_eq L N (unR (.one .bool)) d.1).trans (Eq.trans (b:=f118.b L N some d.1) (by kernel_rfl) hy)
def Φ118 (L N:Nat):Tells:=(addT (Φ54 L N) 118 (f118.ent L N))
theorem Φ118_ok (L N:Nat):TellsOk Tryz.prog (Φ118 L N):=addT_ok (Φ54_ok L N) (f118.ok L N (Φ54_ok L N))
def f85.s0' (L N:Nat) (self85:Tree->Option (Int)) (k0_e1:Int->Option R) (k0_r:Int->Int->Option R) (rec0:Int->Int->Int->Int->Int->LT->Option R) (e b:Int) (a f g:Int) (c:LT):Option R:=
 bif (decide (a<e)) then
  bif (decide (0≤a)&&decide (a<(c.length:Int))) then
   (self85 (listAt c (Ty.dflt (.st 1)) a.toNat)).bind fun d=>
   bif (d==(0:Int)) then
    k0_r (0:Int) b
   else rec0 e (bif decide ((wi (b+d))<(1000:Int)) then (wi (b+d)) else (1000:Int)) (wi (a+(1:Int))) f g c
  else none
 else k0_e1 b
def f85.s0 (L N:Nat) (self85:Tree->Option (Int)) (k0_e1:Int->Option R) (k0_r:Int->Int->Option R) (rec0:Int->Int->Int->Int->Int->LT->Option R) (a b:Int) (c d e:Int) (f:LT):Option R:=
 f85.s0' L N self85 k0_e1 k0_r rec0 a b c d e f
def f85.l0 (L N:Nat) (self85:Tree->Option (Int)) (k0_e1:Int->Option R) (k0_r:Int->Int->Option R):Nat->Int->Int->Int->Int->Int->LT->Option R
 |0,_,_,_,_,_,_=>none
 |n+1,a,b,c,d,e,f=>f85.s0 L N self85 k0_e1 k0_r (f85.l0 L N self85 k0_e1 k0_r n) a b c d e f
def f85.T0 (a b:Int) (c d e:Int) (f:LT):T:=mkT 60 [(1,(.ptr 1001 0)),(3,(.tv i64 a)),(5,(.tv i64 b)),(6,(.tv i64 c))]
def f85.H0 (d e:Int) (f a b:Int) (c:LT):H:=[(1001,(.box [(.tv i64 a),(.tv i64 b),(.tv (.sl (.st 1)) c)]))]
def f85.T0_e1 (a:Int):T:=mkT 60 [(5,(.tv i64 a))]
def f85.H0_e1 (a:Int):H:=[]
def f85.T0_r (a b:Int):T:=mkT 60 [(2,(.tv i64 a)),(5,(.tv i64 b))]
def f85.H0_r (a b:Int):H:=[]
def f85.p0_e1' (L N:Nat) (self85:Tree->Option (Int)) (k:Int->Option R) (a:Int):Option R:=
 k a
def f85.p0_e1 (L N:Nat) (self85:Tree->Option (Int)) (k:Int->Option R) (a:Int):Option R:=
 f85.p0_e1' L N self85 k a
def f85.p0_r' (L N:Nat) (self85:Tree->Option (Int)) (k:Int->Option R) (a b:Int):Option R:=
 k a
def f85.p0_r (L N:Nat) (self85:Tree->Option (Int)) (k:Int->Option R) (a b:Int):Option R:=
 f85.p0_r' L N self85 k a b
def f85.j1' (L N:Nat) (self85:Tree->Option (Int)) (k:Int->Option R) (a:Int->Int->Int->Int->Int->LT->Option R) (b c d:Int) (e:LT):Option R:=
 a b (1:Int) (0:Int) c d e
def f85.j2' (L N:Nat) (self85:Tree->Option (Int)) (k:Int->Option R) (c:Int->Int->Int->Int->Int->LT->Option R) (a:Int) (d:Bool) (e f:Int) (b:LT):Option R:=
 bif (!d) then
  k (0:Int)
 else bif ((b.length:Int) !=a) then
  k (0:Int)
 else f85.j1' L N self85 k c a e f b
def f85.j0' (L N:Nat) (self85:Tree->Option (Int)) (k:Int->Option R) (b:Int->Int->Int->Int->Int->LT->Option R) (e:Int) (g:Bool) (f:Int) (h:Bool) (c a:Int) (d:LT):Option R:=
 bif h then
  f85.j2' L N self85 k b (2:Int) g c a d
 else bif (f==(4:Int)) then
  (f54 L N a (0:Int) (3:Int)).bind fun i=>
  f85.j2' L N self85 k b (1:Int) i c a d
 else bif (f==(5:Int)) then
  (f54 L N a (0:Int) (2:Int)).bind fun j=>
  f85.j2' L N self85 k b e j c a d
 else f85.j2' L N self85 k b e false c a d
def f85.b' (L N:Nat) (self85:Tree->Option (Int)) (k:Int->Option R) (b:Int->Int->Int->Int->Int->LT->Option R) (a:Tree):Option R:=
 bif (a.op==(0:Int)) then
  f85.j2' L N self85 k b (0:Int) (a.n==(0:Int)) a.op a.n a.parts
 else bif (a.op==(1:Int)) then
  (f118 L N a.n).bind fun c=>
  f85.j2' L N self85 k b (1:Int) c a.op a.n a.parts
 else bif (a.op==(2:Int)) then
  f85.j0' L N self85 k b (0:Int) (a.n==(0:Int)) a.op (a.op==(2:Int)) a.op a.n a.parts
 else f85.j0' L N self85 k b (0:Int) (a.n==(0:Int)) a.op (a.op==(3:Int)) a.op a.n a.parts
def f85.b (L N:Nat) (self85:Tree->Option (Int)) (k:Int->Option R) (a:Tree):Option R:=
 f85.b' L N self85 k (fun c d e f g h=>f85.l0 L N self85 (fun i=>f85.p0_e1 L N self85 k i) (fun j l=>f85.p0_r L N self85 k j l) L c d e f g h) a
def f85 (L N:Nat):Nat->Tree->Option (Int)
 |0,_=>none
 |n+1,a=>f85.b L N (f85 L N n) some a
def f85.ent (L N m:Nat):=entRo [(.st 1)] (.one i64) fun d=>f85 L N m d.1
def Φ85s (L N m:Nat):Tells:=(addT (Φ118 L N) 85 (f85.ent L N m))
noncomputable def E85 (L N m:Nat):Env:={P:=Tryz.prog,ty:=tyOf,Φ:=Φ85s L N m,inl:=inlT,live:=lives,liveX:=livesX,L:=L,dp:=none,prom:=promT,heal:=healT,ren:=renT}
noncomputable def f85.c0:Code:=loopAt 1 (codeOf Tryz.f85)
def f85.X0_e1 (κ:KX R):=fun a=>κ (.exit 1) (f85.T0_e1 a) (f85.H0_e1 a)
def f85.X0_r (κ:KX R):=fun a b=>κ .ret (f85.T0_r a b) (f85.H0_r a b)
def f85.R0 (rec:KT R):=fun a b c d e f=>rec (f85.T0 a b c d e f) (f85.H0 a b c d e f)
theorem f85.s0_eq (L N m:Nat) (κ:KX R) (rec:KT R) (a b:Int) (c d e:Int) (f:LT):
  evRd (E85 L N m) (evCallI (E85 L N m) 0 1000) 1000 85 60 1 f85.c0 κ rec (f85.T0 a b c d e f) (f85.H0 a b c d e f)
  =f85.s0 L N (f85 L N m) (f85.X0_e1 κ) (f85.X0_r κ) (f85.R0 rec) a b c d e f:=by kernel_rfl
theorem f85.l0_eq (L N m:Nat) (κ:KX R):∀(n:Nat) (a b:Int) (c d e:Int) (f:LT),
  evLp (E85 L N m) (evCallI (E85 L N m) 0 1000) 1000 85 60 1 f85.c0 κ n (f85.T0 a b c d e f) (f85.H0 a b c d e f)
  =f85.l0 L N (f85 L N m) (f85.X0_e1 κ) (f85.X0_r κ) n a b c d e f:=by
 intro n
 induction n with
 |zero=>intros;rfl
 |succ n ih=>
  intro a b c d e f
  rw [evLp_succ,f85.s0_eq]
  delta f85.R0
  simp only [ih]
  rfl
theorem f85.p0_e1_eq (L N m:Nat) (κ:AV->Option R) (a:Int):
  (contAt (E85 L N m) (evCallI (E85 L N m) 0 1000) 1000 85 60 1 (codeOf Tryz.f85) (finK (E85 L N m) 1000 Tryz.f85 (finC (.one i64) κ))) (.exit 1) (f85.T0_e1 a) (f85.H0_e1 a)
  =f85.p0_e1 L N (f85 L N m) (fun a0=>κ (.tv i64 a0)) a:=by kernel_rfl
theorem f85.p0_r_eq (L N m:Nat) (κ:AV->Option R) (a b:Int):
  (contAt (E85 L N m) (evCallI (E85 L N m) 0 1000) 1000 85 60 1 (codeOf Tryz.f85) (finK (E85 L N m) 1000 Tryz.f85 (finC (.one i64) κ))) .ret (f85.T0_r a b) (f85.H0_r a b)
  =f85.p0_r L N (f85 L N m) (fun a0=>κ (.tv i64 a0)) a b:=by kernel_rfl
theorem f85.b_eq (L N m:Nat) (κ:AV->Option R) (a:Tree):
  evBody (E85 L N m) (evCallI (E85 L N m) 0 1000) 1000 85 Tryz.f85 [(.tv (.st 1) a)] [] [] (finC (.one i64) κ)
  =f85.b L N (f85 L N m) (fun a0=>κ (.tv i64 a0)) a:=by
 refine Eq.trans (b:=f85.b' L N (f85 L N m) (fun a0=>κ (.tv i64 a0)) (fun c d e f g h=>evLp (E85 L N m) (evCallI (E85 L N m) 0 1000) 1000 85 60 1 f85.c0 (contAt (E85 L N m) (evCallI (E85 L N m) 0 1000) 1000 85 60 1 (codeOf Tryz.f85) (finK (E85 L N m) 1000 Tryz.f85 (finC (.one i64) κ))) L (f85.T0 c d e f g h) (f85.H0 c d e f g h)) a) (by kernel_rfl) ?_
 unfold f85.b
 simp only [f85.l0_eq]
 delta f85.X0_e1 f85.X0_r
 simp only [f85.p0_e1_eq,f85.p0_r_eq]
theorem f85.ok (L N m:Nat) (hΦ:TellsOk Tryz.prog (Φ85s L N m)):EntOk Tryz.prog 85 (f85.ent L N (m+1)):=entRo_ok (E:=(E85 L N m)) (dep:=1000) (f:=Tryz.f85) (sound_of hΦ) okP (callI_sound (sound_of hΦ) okP 0 1000) rfl rfl fun d _ hy=>(f85.b_eq L N m (unR (.one i64)) d.1).trans (Eq.trans (b:=f85.b L N (f85 L N m) some d.1) (by kernel_rfl) hy)
theorem Φ85s_ok (L N:Nat):∀m,TellsOk Tryz.prog (Φ85s L N m):=by
 intro m
 induction m with
 |zero=>exact (addT_ok (Φ118_ok L N) (entRo_no fun _=>rfl))
 |succ m ih=>exact (addT_ok (Φ118_ok L N) (f85.ok L N m ih))
def Φ85 (L N:Nat):Tells:=(addT (Φ118 L N) 85 (f85.ent L N N))
theorem Φ85_ok (L N:Nat):TellsOk Tryz.prog (Φ85 L N):=Φ85s_ok L N N
def f53.b' (L N:Nat) (k:Bool->Option R) (a:Tree):Option R:=
 (f85 L N N (Tree.mk a.op a.n a.parts)).bind fun b=>
 (f54 L N b (1:Int) (24:Int)).bind fun c=>
 k c
def f53.b (L N:Nat) (k:Bool->Option R) (a:Tree):Option R:=
 f53.b' L N k a
def f53 (L N:Nat) (a:Tree):Option (Bool):=f53.b L N some a
def f53.ent (L N:Nat):=entRo [(.st 1)] (.one .bool) fun d=>f53 L N d.1
noncomputable def E53 (L N:Nat):Env:={P:=Tryz.prog,ty:=tyOf,Φ:=(Φ85 L N),inl:=inlT,live:=lives,liveX:=livesX,L:=L,dp:=none,prom:=promT,heal:=healT,ren:=renT}
theorem f53.b_eq (L N:Nat) (κ:AV->Option R) (a:Tree):
  evBody (E53 L N) (evCallI (E53 L N) 0 1000) 1000 53 Tryz.f53 [(.tv (.st 1) a)] [] [] (finC (.one .bool) κ)
  =f53.b L N (fun a0=>κ (.tv .bool a0)) a:=by kernel_rfl
theorem f53.ok (L N:Nat) (hΦ:TellsOk Tryz.prog ((Φ85 L N))):EntOk Tryz.prog 53 (f53.ent L N):=entRo_ok (E:=(E53 L N)) (dep:=1000) (f:=Tryz.f53) (sound_of hΦ) okP (callI_sound (sound_of hΦ) okP 0 1000) rfl rfl fun d _ hy=>(f53.b_eq L N (unR (.one .bool)) d.1).trans (Eq.trans (b:=f53.b L N some d.1) (by kernel_rfl) hy)
def Φ53 (L N:Nat):Tells:=(addT (Φ85 L N) 53 (f53.ent L N))
theorem Φ53_ok (L N:Nat):TellsOk Tryz.prog (Φ53 L N):=addT_ok (Φ85_ok L N) (f53.ok L N (Φ85_ok L N))
def f159.b' (L N:Nat) (k:Bool->Option R) (a:Tree) (b:Int):Option R:=
 (f53 L N (Tree.mk a.op a.n a.parts)).bind fun c=>
 bif c then
  (f54 L N b (0:Int) (3:Int)).bind fun d=>
  bif d then
   (f97 L N N (Tree.mk a.op a.n a.parts) false).bind fun e=>
   k (decide (e<b))
  else k false
 else k false
def f159.b (L N:Nat) (k:Bool->Option R) (a:Tree) (c:Int):Option R:=
 f159.b' L N k a c
def f159 (L N:Nat) (a:Tree) (c:Int):Option (Bool):=f159.b L N some a c
def f159.ent (L N:Nat):=entRo [(.st 1),i64] (.one .bool) fun d=>f159 L N d.1 d.2.1
noncomputable def E159 (L N:Nat):Env:={P:=Tryz.prog,ty:=tyOf,Φ:=(Φ53 L N),inl:=inlT,live:=lives,liveX:=livesX,L:=L,dp:=none,prom:=promT,heal:=healT,ren:=renT}
theorem f159.b_eq (L N:Nat) (κ:AV->Option R) (a:Tree) (c:Int):
  evBody (E159 L N) (evCallI (E159 L N) 0 1000) 1000 159 Tryz.f159 [(.tv (.st 1) a),(.tv i64 c)] [] [] (finC (.one .bool) κ)
  =f159.b L N (fun a0=>κ (.tv .bool a0)) a c:=by kernel_rfl
theorem f159.ok (L N:Nat) (hΦ:TellsOk Tryz.prog ((Φ53 L N))):EntOk Tryz.prog 159 (f159.ent L N):=entRo_ok (E:=(E159 L N)) (dep:=1000) (f:=Tryz.f159) (sound_of hΦ) okP (callI_sound (sound_of hΦ) okP 0 1000) rfl rfl fun d _ hy=>(f159.b_eq L N (unR (.one .bool)) d.1 d.2.1).trans (Eq.trans (b:=f159.b L N some d.1 d.2.1) (by kernel_rfl) hy)
def Φ159 (L N:Nat):Tells:=(addT (Φ53 L N) 159 (f159.ent L N))
theorem Φ159_ok (L N:Nat):TellsOk Tryz.prog (Φ159 L N):=addT_ok (Φ53_ok L N) (f159.ok L N (Φ53_ok L N))
def f158.s0' (L N:Nat) (k0_e0:LT->Option R) (k0_r:LT->Bool->Option R) (rec0:LT->Int->Option R) (a:LT) (b:Int):Option R:=
 bif (decide (b<(a.length:Int))) then
  bif (decide (0≤b)&&decide (b<(a.length:Int))) then
   (f159 L N (listAt a (Ty.dflt (.st 1)) b.toNat) (a.length:Int)).bind fun c=>
   bif (!c) then
    k0_r a false
   else bif (decide (0≤b)&&decide (b<(a.length:Int))) then
    (f97 L N N (listAt a (Ty.dflt (.st 1)) b.toNat) true).bind fun d=>
    bif (decide (d≥(0:Int))) then
     k0_r a false
    else rec0 a (wi (b+(1:Int)))
   else none
  else none
 else k0_e0 a
def f158.s0 (L N:Nat) (k0_e0:LT->Option R) (k0_r:LT->Bool->Option R) (rec0:LT->Int->Option R) (a:LT) (b:Int):Option R:=
 f158.s0' L N k0_e0 k0_r rec0 a b
def f158.l0 (L N:Nat) (k0_e0:LT->Option R) (k0_r:LT->Bool->Option R):Nat->LT->Int->Option R
 |0,_,_=>none
 |n+1,a,b=>f158.s0 L N k0_e0 k0_r (f158.l0 L N k0_e0 k0_r n) a b
def f158.T0 (a:LT) (b:Int):T:=mkT 29 [(0,(.tv (.sl (.st 1)) a)),(3,(.tv i64 b))]
def f158.H0 (a:LT) (b:Int):H:=[]
def f158.T0_e0 (a:LT):T:=mkT 29 [(0,(.tv (.sl (.st 1)) a))]
def f158.H0_e0 (a:LT):H:=[]
def f158.T0_r (a:LT) (b:Bool):T:=mkT 29 [(0,(.tv (.sl (.st 1)) a)),(2,(.tv .bool b))]
def f158.H0_r (a:LT) (b:Bool):H:=[]
def f158.p0_e0' (L N:Nat) (k:Bool->Option R) (a:LT):Option R:=
 k (decide ((a.length:Int)≤(3:Int)))
def f158.p0_e0 (L N:Nat) (k:Bool->Option R) (a:LT):Option R:=
 f158.p0_e0' L N k a
def f158.p0_r' (L N:Nat) (k:Bool->Option R) (b:LT) (a:Bool):Option R:=
 k a
def f158.p0_r (L N:Nat) (k:Bool->Option R) (a:LT) (b:Bool):Option R:=
 f158.p0_r' L N k a b
def f158.b' (L N:Nat) (k:Bool->Option R) (a:LT->Int->Option R) (b:LT):Option R:=
 a b (0:Int)
def f158.b (L N:Nat) (k:Bool->Option R) (a:LT):Option R:=
 f158.b' L N k (fun c d=>f158.l0 L N (fun e=>f158.p0_e0 L N k e) (fun f g=>f158.p0_r L N k f g) L c d) a
def f158 (L N:Nat) (a:LT):Option (Bool):=f158.b L N some a
def f158.ent (L N:Nat):=entRo [(.sl (.st 1))] (.one .bool) fun d=>f158 L N d.1
noncomputable def E158 (L N:Nat):Env:={P:=Tryz.prog,ty:=tyOf,Φ:=(Φ159 L N),inl:=inlT,live:=lives,liveX:=livesX,L:=L,dp:=none,prom:=promT,heal:=healT,ren:=renT}
noncomputable def f158.c0:Code:=loopAt 0 (codeOf Tryz.f158)
def f158.X0_e0 (κ:KX R):=fun a=>κ (.exit 0) (f158.T0_e0 a) (f158.H0_e0 a)
def f158.X0_r (κ:KX R):=fun a b=>κ .ret (f158.T0_r a b) (f158.H0_r a b)
def f158.R0 (rec:KT R):=fun a b=>rec (f158.T0 a b) (f158.H0 a b)
theorem f158.s0_eq (L N:Nat) (κ:KX R) (rec:KT R) (a:LT) (b:Int):
  evRd (E158 L N) (evCallI (E158 L N) 0 1000) 1000 158 29 0 f158.c0 κ rec (f158.T0 a b) (f158.H0 a b)
  =f158.s0 L N (f158.X0_e0 κ) (f158.X0_r κ) (f158.R0 rec) a b:=by kernel_rfl
theorem f158.l0_eq (L N:Nat) (κ:KX R):∀(n:Nat) (a:LT) (b:Int),
  evLp (E158 L N) (evCallI (E158 L N) 0 1000) 1000 158 29 0 f158.c0 κ n (f158.T0 a b) (f158.H0 a b)
  =f158.l0 L N (f158.X0_e0 κ) (f158.X0_r κ) n a b:=by
 intro n
 induction n with
 |zero=>intros;rfl
 |succ n ih=>
  intro a b
  rw [evLp_succ,f158.s0_eq]
  delta f158.R0
  simp only [ih]
  rfl
theorem f158.p0_e0_eq (L N:Nat) (κ:AV->Option R) (a:LT):
  (contAt (E158 L N) (evCallI (E158 L N) 0 1000) 1000 158 29 0 (codeOf Tryz.f158) (finK (E158 L N) 1000 Tryz.f158 (finC (.one .bool) κ))) (.exit 0) (f158.T0_e0 a) (f158.H0_e0 a)
  =f158.p0_e0 L N (fun a0=>κ (.tv .bool a0)) a:=by kernel_rfl
theorem f158.p0_r_eq (L N:Nat) (κ:AV->Option R) (a:LT) (b:Bool):
  (contAt (E158 L N) (evCallI (E158 L N) 0 1000) 1000 158 29 0 (codeOf Tryz.f158) (finK (E158 L N) 1000 Tryz.f158 (finC (.one .bool) κ))) .ret (f158.T0_r a b) (f158.H0_r a b)
  =f158.p0_r L N (fun a0=>κ (.tv .bool a0)) a b:=by kernel_rfl
theorem f158.b_eq (L N:Nat) (κ:AV->Option R) (a:LT):
  evBody (E158 L N) (evCallI (E158 L N) 0 1000) 1000 158 Tryz.f158 [(.tv (.sl (.st 1)) a)] [] [] (finC (.one .bool) κ)
  =f158.b L N (fun a0=>κ (.tv .bool a0)) a:=by
 refine Eq.trans (b:=f158.b' L N (fun a0=>κ (.tv .bool a0)) (fun c d=>evLp (E158 L N) (evCallI (E158 L N) 0 1000) 1000 158 29 0 f158.c0 (contAt (E158 L N) (evCallI (E158 L N) 0 1000) 1000 158 29 0 (codeOf Tryz.f158) (finK (E158 L N) 1000 Tryz.f158 (finC (.one .bool) κ))) L (f158.T0 c d) (f158.H0 c d)) a) (by kernel_rfl) ?_
 unfold f158.b
 simp only [f158.l0_eq]
 delta f158.X0_e0 f158.X0_r
 simp only [f158.p0_e0_eq,f158.p0_r_eq]
theorem f158.ok (L N:Nat) (hΦ:TellsOk Tryz.prog ((Φ159 L N))):EntOk Tryz.prog 158 (f158.ent L N):=entRo_ok (E:=(E158 L N)) (dep:=1000) (f:=Tryz.f158) (sound_of hΦ) okP (callI_sound (sound_of hΦ) okP 0 1000) rfl rfl fun d _ hy=>(f158.b_eq L N (unR (.one .bool)) d.1).trans (Eq.trans (b:=f158.b L N some d.1) (by kernel_rfl) hy)
def Φ158 (L N:Nat):Tells:=(addT (Φ159 L N) 158 (f158.ent L N))
theorem Φ158_ok (L N:Nat):TellsOk Tryz.prog (Φ158 L N):=addT_ok (Φ159_ok L N) (f158.ok L N (Φ159_ok L N))
def f115.b' (L N:Nat) (k:Bool->Option R) (a:Tree) (b:LT):Option R:=
 (f158 L N b).bind fun c=>
 bif c then
  (f159 L N (Tree.mk a.op a.n a.parts) (b.length:Int)).bind fun d=>
  k d
 else k false
def f115.b (L N:Nat) (k:Bool->Option R) (a:Tree) (c:LT):Option R:=
 f115.b' L N k a c
def f115 (L N:Nat) (a:Tree) (c:LT):Option (Bool):=f115.b L N some a c
def f115.ent (L N:Nat):=entRo [(.st 1),(.sl (.st 1))] (.one .bool) fun d=>f115 L N d.1 d.2.1
noncomputable def E115 (L N:Nat):Env:={P:=Tryz.prog,ty:=tyOf,Φ:=(Φ158 L N),inl:=inlT,live:=lives,liveX:=livesX,L:=L,dp:=none,prom:=promT,heal:=healT,ren:=renT}
theorem f115.b_eq (L N:Nat) (κ:AV->Option R) (a:Tree) (c:LT):
  evBody (E115 L N) (evCallI (E115 L N) 0 1000) 1000 115 Tryz.f115 [(.tv (.st 1) a),(.tv (.sl (.st 1)) c)] [] [] (finC (.one .bool) κ)
  =f115.b L N (fun a0=>κ (.tv .bool a0)) a c:=by kernel_rfl
theorem f115.ok (L N:Nat) (hΦ:TellsOk Tryz.prog ((Φ158 L N))):EntOk Tryz.prog 115 (f115.ent L N):=entRo_ok (E:=(E115 L N)) (dep:=1000) (f:=Tryz.f115) (sound_of hΦ) okP (callI_sound (sound_of hΦ) okP 0 1000) rfl rfl fun d _ hy=>(f115.b_eq L N (unR (.one .bool)) d.1 d.2.1).trans (Eq.trans (b:=f115.b L N some d.1 d.2.1) (by kernel_rfl) hy)
def Φ115 (L N:Nat):Tells:=(addT (Φ158 L N) 115 (f115.ent L N))
theorem Φ115_ok (L N:Nat):TellsOk Tryz.prog (Φ115 L N):=addT_ok (Φ158_ok L N) (f115.ok L N (Φ158_ok L N))
def f119.b' (L N:Nat) (k:Bool->Option R) (a b:Move):Option R:=
 bif (decide (a.act<b.act)) then
  k true
 else bif (a.act==b.act) then
  k (decide (a.to<b.to))
 else k false
def f119.b (L N:Nat) (k:Bool->Option R) (a c:Move):Option R:=
 f119.b' L N k a c
def f119 (L N:Nat) (a c:Move):Option (Bool):=f119.b L N some a c
def f119.ent (L N:Nat):=entRo [(.st 0),(.st 0)] (.one .bool) fun d=>f119 L N d.1 d.2.1
noncomputable def E119 (L N:Nat):Env:={P:=Tryz.prog,ty:=tyOf,Φ:=(Φ115 L N),inl:=inlT,live:=lives,liveX:=livesX,L:=L,dp:=none,prom:=promT,heal:=healT,ren:=renT}
theorem f119.b_eq (L N:Nat) (κ:AV->Option R) (a c:Move):
  evBody (E119 L N) (evCallI (E119 L N) 0 1000) 1000 119 Tryz.f119 [(.tv (.st 0) a),(.tv (.st 0) c)] [] [] (finC (.one .bool) κ)
  =f119.b L N (fun a0=>κ (.tv .bool a0)) a c:=by kernel_rfl
theorem f119.ok (L N:Nat) (hΦ:TellsOk Tryz.prog ((Φ115 L N))):EntOk Tryz.prog 119 (f119.ent L N):=entRo_ok (E:=(E119 L N)) (dep:=1000) (f:=Tryz.f119) (sound_of hΦ) okP (callI_sound (sound_of hΦ) okP 0 1000) rfl rfl fun d _ hy=>(f119.b_eq L N (unR (.one .bool)) d.1 d.2.1).trans (Eq.trans (b:=f119.b L N some d.1 d.2.1) (by kernel_rfl) hy)
def Φ119 (L N:Nat):Tells:=(addT (Φ115 L N) 119 (f119.ent L N))
theorem Φ119_ok (L N:Nat):TellsOk Tryz.prog (Φ119 L N):=addT_ok (Φ115_ok L N) (f119.ok L N (Φ115_ok L N))
def f78.s1' (L N:Nat) (k1_e2:LM->Int->Int->LM->Option R) (rec1:LM->Int->Int->LM->Option R) (c:LM) (b a:Int) (d:LM):Option R:=
 bif (decide (a>(0:Int))) then
  bif (decide (0≤b)&&decide (b<(c.length:Int))) then
   bif (decide (0≤(wi (a-(1:Int))))&&decide ((wi (a-(1:Int)))<(d.length:Int))) then
    (f119 L N (listAt c (Ty.dflt (.st 0)) b.toNat) (listAt d (Ty.dflt (.st 0)) (wi (a-(1:Int))).toNat)).bind fun e=>
    bif e then
     rec1 c b (wi (a-(1:Int))) d
    else k1_e2 c b a d
   else none
  else none
 else k1_e2 c b a d
def f78.s1 (L N:Nat) (k1_e2:LM->Int->Int->LM->Option R) (rec1:LM->Int->Int->LM->Option R) (a:LM) (b c:Int) (d:LM):Option R:=
 f78.s1' L N k1_e2 rec1 a b c d
def f78.l1 (L N:Nat) (k1_e2:LM->Int->Int->LM->Option R):Nat->LM->Int->Int->LM->Option R
 |0,_,_,_,_=>none
 |n+1,a,b,c,d=>f78.s1 L N k1_e2 (f78.l1 L N k1_e2 n) a b c d
def f78.T1 (a:LM) (b c:Int) (d:LM):T:=mkT 74 [(0,(.tv (.sl (.st 0)) a)),(3,(.row 1007)),(4,(.tv i64 b)),(5,(.tv i64 c))]
def f78.H1 (b:LM) (c d:Int) (a:LM):H:=[(1007,(.row 63 (.st 0) a))]
def f78.T1_e2 (a:LM) (b c:Int) (d:LM):T:=mkT 74 [(0,(.tv (.sl (.st 0)) a)),(3,(.row 1007)),(4,(.tv i64 b)),(5,(.tv i64 c))]
def f78.H1_e2 (b:LM) (c d:Int) (a:LM):H:=[(1007,(.row 63 (.st 0) a))]
def f78.s2' (L N:Nat) (k2_e4:LM->Int->Int->LM->Option R) (rec2:LM->Int->Int->Int->LM->Option R) (d:LM) (e c a:Int) (b:LM):Option R:=
 bif (decide (a>c)) then
  bif (decide (0≤(wi (a-(1:Int))))&&decide ((wi (a-(1:Int)))<(b.length:Int))) then
   bif (decide (0≤a)&&decide (a<(b.length:Int))) then
    rec2 d e c (wi (a-(1:Int))) (b.set a.toNat (listAt b (Ty.dflt (.st 0)) (wi (a-(1:Int))).toNat))
   else none
  else none
 else k2_e4 d e c b
def f78.s2 (L N:Nat) (k2_e4:LM->Int->Int->LM->Option R) (rec2:LM->Int->Int->Int->LM->Option R) (a:LM) (b c d:Int) (e:LM):Option R:=
 f78.s2' L N k2_e4 rec2 a b c d e
def f78.l2 (L N:Nat) (k2_e4:LM->Int->Int->LM->Option R):Nat->LM->Int->Int->Int->LM->Option R
 |0,_,_,_,_,_=>none
 |n+1,a,b,c,d,e=>f78.s2 L N k2_e4 (f78.l2 L N k2_e4 n) a b c d e
def f78.T2 (a:LM) (b c d:Int) (e:LM):T:=mkT 74 [(0,(.tv (.sl (.st 0)) a)),(3,(.row 1007)),(4,(.tv i64 b)),(5,(.tv i64 c)),(6,(.tv i64 d))]
def f78.H2 (b:LM) (c d e:Int) (a:LM):H:=[(1007,(.row 63 (.st 0) a))]
def f78.T2_e4 (a:LM) (b c:Int) (d:LM):T:=mkT 74 [(0,(.tv (.sl (.st 0)) a)),(3,(.row 1007)),(4,(.tv i64 b)),(5,(.tv i64 c))]
def f78.H2_e4 (b:LM) (c d:Int) (a:LM):H:=[(1007,(.row 63 (.st 0) a))]
def f78.p2_e4' (L N:Nat) (k0_e0:LM->Option R) (rec0:LM->Int->LM->Option R) (b:LM) (a c:Int) (d:LM):Option R:=
 bif (decide (0≤a)&&decide (a<(b.length:Int))) then
  bif (decide (0≤c)&&decide (c<(d.length:Int))) then
   rec0 b (wi (a+(1:Int))) (d.set c.toNat (listAt b (Ty.dflt (.st 0)) a.toNat))
  else none
 else none
def f78.p2_e4 (L N:Nat) (k0_e0:LM->Option R) (rec0:LM->Int->LM->Option R) (a:LM) (b c:Int) (d:LM):Option R:=
 f78.p2_e4' L N k0_e0 rec0 a b c d
def f78.j0' (L N:Nat) (k0_e0:LM->Option R) (rec0:LM->Int->LM->Option R) (b:LM->Int->Int->Int->LM->Option R) (c:LM) (d e:Int) (a:LM):Option R:=
 bif (decide (a.length+([(Move.mk (0:Int) (0:Int))]:LM).length≤lim)) then
  b c d e (wi (((a++([(Move.mk (0:Int) (0:Int))]:LM)).length:Int)-(1:Int))) (a++([(Move.mk (0:Int) (0:Int))]:LM))
 else none
def f78.p1_e2' (L N:Nat) (k0_e0:LM->Option R) (rec0:LM->Int->LM->Option R) (e:LM->Int->Int->Int->LM->Option R) (c:LM) (a b:Int) (d:LM):Option R:=
 bif (decide (b>(0:Int))) then
  bif (decide (0≤(wi (b-(1:Int))))&&decide ((wi (b-(1:Int)))<(d.length:Int))) then
   bif (decide (0≤a)&&decide (a<(c.length:Int))) then
    bif (Move.eqb (listAt d (Ty.dflt (.st 0)) (wi (b-(1:Int))).toNat) (listAt c (Ty.dflt (.st 0)) a.toNat)) then
     rec0 c (wi (a+(1:Int))) d
    else f78.j0' L N k0_e0 rec0 e c a b d
   else none
  else none
 else f78.j0' L N k0_e0 rec0 e c a b d
def f78.p1_e2 (L N:Nat) (k0_e0:LM->Option R) (rec0:LM->Int->LM->Option R) (a:LM) (b c:Int) (d:LM):Option R:=
 f78.p1_e2' L N k0_e0 rec0 (fun e f g h i=>f78.l2 L N (fun j k l m=>f78.p2_e4 L N k0_e0 rec0 j k l m) L e f g h i) a b c d
def f78.s0' (L N:Nat) (k0_e0:LM->Option R) (rec0:LM->Int->LM->Option R) (d:LM->Int->Int->LM->Option R) (b:LM) (c:Int) (a:LM):Option R:=
 bif (decide (c<(b.length:Int))) then
  d b c (a.length:Int) a
 else k0_e0 a
def f78.s0 (L N:Nat) (k0_e0:LM->Option R) (rec0:LM->Int->LM->Option R) (a:LM) (b:Int) (c:LM):Option R:=
 f78.s0' L N k0_e0 rec0 (fun d e f g=>f78.l1 L N (fun h i j k=>f78.p1_e2 L N k0_e0 rec0 h i j k) L d e f g) a b c
def f78.l0 (L N:Nat) (k0_e0:LM->Option R):Nat->LM->Int->LM->Option R
 |0,_,_,_=>none
 |n+1,a,b,c=>f78.s0 L N k0_e0 (f78.l0 L N k0_e0 n) a b c
def f78.T0 (a:LM) (b:Int) (c:LM):T:=mkT 74 [(0,(.tv (.sl (.st 0)) a)),(3,(.row 1007)),(4,(.tv i64 b))]
def f78.H0 (b:LM) (c:Int) (a:LM):H:=[(1007,(.row 63 (.st 0) a))]
def f78.T0_e0 (a:LM):T:=mkT 74 [(3,(.row 1007))]
def f78.H0_e0 (a:LM):H:=[(1007,(.row 63 (.st 0) a))]
def f78.p0_e0' (L N:Nat) (k:LM->Option R) (a:LM):Option R:=
 k a
def f78.p0_e0 (L N:Nat) (k:LM->Option R) (a:LM):Option R:=
 f78.p0_e0' L N k a
def f78.b' (L N:Nat) (k:LM->Option R) (a:LM->Int->LM->Option R) (b:LM):Option R:=
 a b (0:Int) ([]:LM)
def f78.b (L N:Nat) (k:LM->Option R) (a:LM):Option R:=
 f78.b' L N k (fun c d e=>f78.l0 L N (fun f=>f78.p0_e0 L N k f) L c d e) a
def f78 (L N:Nat) (a:LM):Option (LM):=f78.b L N some a
def f78.ent (L N:Nat) (args:List AV) (vw:View) (site:Nat):Ans:=match roD [(.sl (.st 0))] vw args with
 |some d=>⟨LM,f78 L N d.1,fun y=>(RN.av site .row (),[(site,some (mkO none 63 (.st 0) y))],[])⟩
 |none=>Ans.no
noncomputable def E78 (L N:Nat):Env:={P:=Tryz.prog,ty:=tyOf,Φ:=(Φ119 L N),inl:=inlT,live:=lives,liveX:=livesX,L:=L,dp:=none,prom:=promT,heal:=healT,ren:=renT}
noncomputable def f78.c0:Code:=loopAt 0 (codeOf Tryz.f78)
noncomputable def f78.c1:Code:=loopAt 2 f78.c0
def f78.X1_e2 (κ:KX R):=fun a b c d=>κ (.exit 2) (f78.T1_e2 a b c d) (f78.H1_e2 a b c d)
def f78.R1 (rec:KT R):=fun a b c d=>rec (f78.T1 a b c d) (f78.H1 a b c d)
theorem f78.s1_eq (L N:Nat) (κ:KX R) (rec:KT R) (a:LM) (b c:Int) (d:LM):
  evRd (E78 L N) (evCallI (E78 L N) 0 1000) 1000 78 74 2 f78.c1 κ rec (f78.T1 a b c d) (f78.H1 a b c d)
  =f78.s1 L N (f78.X1_e2 κ) (f78.R1 rec) a b c d:=by kernel_rfl
theorem f78.l1_eq (L N:Nat) (κ:KX R):∀(n:Nat) (a:LM) (b c:Int) (d:LM),
  evLp (E78 L N) (evCallI (E78 L N) 0 1000) 1000 78 74 2 f78.c1 κ n (f78.T1 a b c d) (f78.H1 a b c d)
  =f78.l1 L N (f78.X1_e2 κ) n a b c d:=by
 intro n
 induction n with
 |zero=>intros;rfl
 |succ n ih=>
  intro a b c d
  rw [evLp_succ,f78.s1_eq]
  delta f78.R1
  simp only [ih]
  rfl
noncomputable def f78.c2:Code:=loopAt 4 f78.c0
def f78.X2_e4 (κ:KX R):=fun a b c d=>κ (.exit 4) (f78.T2_e4 a b c d) (f78.H2_e4 a b c d)
def f78.R2 (rec:KT R):=fun a b c d e=>rec (f78.T2 a b c d e) (f78.H2 a b c d e)
theorem f78.s2_eq (L N:Nat) (κ:KX R) (rec:KT R) (a:LM) (b c d:Int) (e:LM):
  evRd (E78 L N) (evCallI (E78 L N) 0 1000) 1000 78 74 4 f78.c2 κ rec (f78.T2 a b c d e) (f78.H2 a b c d e)
  =f78.s2 L N (f78.X2_e4 κ) (f78.R2 rec) a b c d e:=by kernel_rfl
theorem f78.l2_eq (L N:Nat) (κ:KX R):∀(n:Nat) (a:LM) (b c d:Int) (e:LM),
  evLp (E78 L N) (evCallI (E78 L N) 0 1000) 1000 78 74 4 f78.c2 κ n (f78.T2 a b c d e) (f78.H2 a b c d e)
  =f78.l2 L N (f78.X2_e4 κ) n a b c d e:=by
 intro n
 induction n with
 |zero=>intros;rfl
 |succ n ih=>
  intro a b c d e
  rw [evLp_succ,f78.s2_eq]
  delta f78.R2
  simp only [ih]
  rfl
def f78.X0_e0 (κ:KX R):=fun a=>κ (.exit 0) (f78.T0_e0 a) (f78.H0_e0 a)
def f78.R0 (rec:KT R):=fun a b c=>rec (f78.T0 a b c) (f78.H0 a b c)
theorem f78.p2_e4_eq (L N:Nat) (κ:KX R) (rec:KT R) (a:LM) (b c:Int) (d:LM):
  (contAt (E78 L N) (evCallI (E78 L N) 0 1000) 1000 78 74 4 f78.c0 (rdK (E78 L N) 1000 78 74 0 κ rec)) (.exit 4) (f78.T2_e4 a b c d) (f78.H2_e4 a b c d)
  =f78.p2_e4 L N (f78.X0_e0 κ) (f78.R0 rec) a b c d:=by kernel_rfl
theorem f78.p1_e2_eq (L N:Nat) (κ:KX R) (rec:KT R) (a:LM) (c d:Int) (e:LM):
  (contAt (E78 L N) (evCallI (E78 L N) 0 1000) 1000 78 74 2 f78.c0 (rdK (E78 L N) 1000 78 74 0 κ rec)) (.exit 2) (f78.T1_e2 a c d e) (f78.H1_e2 a c d e)
  =f78.p1_e2 L N (f78.X0_e0 κ) (f78.R0 rec) a c d e:=by
 refine Eq.trans (b:=f78.p1_e2' L N (f78.X0_e0 κ) (f78.R0 rec) (fun f g h i j=>evLp (E78 L N) (evCallI (E78 L N) 0 1000) 1000 78 74 4 f78.c2 (contAt (E78 L N) (evCallI (E78 L N) 0 1000) 1000 78 74 4 f78.c0 (rdK (E78 L N) 1000 78 74 0 κ rec)) L (f78.T2 f g h i j) (f78.H2 f g h i j)) a c d e) (by kernel_rfl) ?_
 unfold f78.p1_e2
 simp only [f78.l2_eq]
 delta f78.X2_e4
 simp only [f78.p2_e4_eq]
theorem f78.s0_eq (L N:Nat) (κ:KX R) (rec:KT R) (a:LM) (c:Int) (d:LM):
  evRd (E78 L N) (evCallI (E78 L N) 0 1000) 1000 78 74 0 f78.c0 κ rec (f78.T0 a c d) (f78.H0 a c d)
  =f78.s0 L N (f78.X0_e0 κ) (f78.R0 rec) a c d:=by
 refine Eq.trans (b:=f78.s0' L N (f78.X0_e0 κ) (f78.R0 rec) (fun e f g h=>evLp (E78 L N) (evCallI (E78 L N) 0 1000) 1000 78 74 2 f78.c1 (contAt (E78 L N) (evCallI (E78 L N) 0 1000) 1000 78 74 2 f78.c0 (rdK (E78 L N) 1000 78 74 0 κ rec)) L (f78.T1 e f g h) (f78.H1 e f g h)) a c d) (by kernel_rfl) ?_
 unfold f78.s0
 simp only [f78.l1_eq]
 delta f78.X1_e2
 simp only [f78.p1_e2_eq]
theorem f78.l0_eq (L N:Nat) (κ:KX R):∀(n:Nat) (a:LM) (b:Int) (c:LM),
  evLp (E78 L N) (evCallI (E78 L N) 0 1000) 1000 78 74 0 f78.c0 κ n (f78.T0 a b c) (f78.H0 a b c)
  =f78.l0 L N (f78.X0_e0 κ) n a b c:=by
 intro n
 induction n with
 |zero=>intros;rfl
 |succ n ih=>
  intro a b c
  rw [evLp_succ,f78.s0_eq]
  delta f78.R0
  simp only [ih]
  rfl
theorem f78.p0_e0_eq (L N:Nat) (κ:RN.Den .row->List Move->Option R) (a:LM):
  (contAt (E78 L N) (evCallI (E78 L N) 0 1000) 1000 78 74 0 (codeOf Tryz.f78) (finK (E78 L N) 1000 Tryz.f78 (finN .row none 63 (.st 0) κ))) (.exit 0) (f78.T0_e0 a) (f78.H0_e0 a)
  =f78.p0_e0 L N (fun a0=>κ () a0) a:=by kernel_rfl
theorem f78.b_eq (L N:Nat) (κ:RN.Den .row->List Move->Option R) (a:LM):
  evBody (E78 L N) (evCallI (E78 L N) 0 1000) 1000 78 Tryz.f78 [(.tv (.sl (.st 0)) a)] [] [] (finN .row none 63 (.st 0) κ)
  =f78.b L N (fun a0=>κ () a0) a:=by
 refine Eq.trans (b:=f78.b' L N (fun a0=>κ () a0) (fun c d e=>evLp (E78 L N) (evCallI (E78 L N) 0 1000) 1000 78 74 0 f78.c0 (contAt (E78 L N) (evCallI (E78 L N) 0 1000) 1000 78 74 0 (codeOf Tryz.f78) (finK (E78 L N) 1000 Tryz.f78 (finN .row none 63 (.st 0) κ))) L (f78.T0 c d e) (f78.H0 c d e)) a) (by kernel_rfl) ?_
 unfold f78.b
 simp only [f78.l0_eq]
 delta f78.X0_e0
 simp only [f78.p0_e0_eq]
theorem f78.ok (L N:Nat) (hΦ:TellsOk Tryz.prog ((Φ119 L N))):EntOk Tryz.prog 78 (f78.ent L N):=by
 intro args vw site h
 unfold f78.ent
 split
 ·rename_i d ha
  intro y hy hs
  refine call_ron (y:=y) (dep:=1000) (E:=(E78 L N)) (ts:=[(.sl (.st 0))]) (rn:=.row) (q:=none) (el:=63) (ty:=(.st 0)) (d1:=()) (xs:=y) (κ:=(fun d xs=>some xs)) (sound_of hΦ) okP (callI_sound (sound_of hΦ) okP 0 1000) (f:=Tryz.f78) rfl hs ha ?_ (fun _ _ h=>by obtain rfl:=Option.some.inj h;exact ⟨rfl,rfl⟩) rfl site
  exact (f78.b_eq L N (fun d xs=>some xs) d.1).trans (Eq.trans (b:=f78.b L N some d.1) (by kernel_rfl) hy)
 ·intro y hy
  cases hy
def Φ78 (L N:Nat):Tells:=(addT (Φ119 L N) 78 (f78.ent L N))
theorem Φ78_ok (L N:Nat):TellsOk Tryz.prog (Φ78 L N):=addT_ok (Φ119_ok L N) (f78.ok L N (Φ119_ok L N))
def f135.b' (L N:Nat) (k:Int->Option R) (a:Int):Option R:=
 k (wi ((bif decide ((wi (0-a))>a) then (wi (0-a)) else a)-(1:Int)))
def f135.b (L N:Nat) (k:Int->Option R) (a:Int):Option R:=
 f135.b' L N k a
def f135 (L N:Nat) (a:Int):Option (Int):=f135.b L N some a
def f135.ent (L N:Nat):=entRo [i64] (.one i64) fun d=>f135 L N d.1
noncomputable def E135 (L N:Nat):Env:={P:=Tryz.prog,ty:=tyOf,Φ:=(Φ78 L N),inl:=inlT,live:=lives,liveX:=livesX,L:=L,dp:=none,prom:=promT,heal:=healT,ren:=renT}
theorem f135.b_eq (L N:Nat) (κ:AV->Option R) (a:Int):
  evBody (E135 L N) (evCallI (E135 L N) 0 1000) 1000 135 Tryz.f135 [(.tv i64 a)] [] [] (finC (.one i64) κ)
  =f135.b L N (fun a0=>κ (.tv i64 a0)) a:=by kernel_rfl
theorem f135.ok (L N:Nat) (hΦ:TellsOk Tryz.prog ((Φ78 L N))):EntOk Tryz.prog 135 (f135.ent L N):=entRo_ok (E:=(E135 L N)) (dep:=1000) (f:=Tryz.f135) (sound_of hΦ) okP (callI_sound (sound_of hΦ) okP 0 1000) rfl rfl fun d _ hy=>(f135.b_eq L N (unR (.one i64)) d.1).trans (Eq.trans (b:=f135.b L N some d.1) (by kernel_rfl) hy)
def Φ135 (L N:Nat):Tells:=(addT (Φ78 L N) 135 (f135.ent L N))
theorem Φ135_ok (L N:Nat):TellsOk Tryz.prog (Φ135 L N):=addT_ok (Φ78_ok L N) (f135.ok L N (Φ78_ok L N))
def f98.s0' (L N:Nat) (self98:Tree->LT->Option (LS)) (k0_e1:Int->Int->LT->LS->LS->LS->Option R) (rec0:Int->Int->Int->LT->LS->LS->LS->Option R) (a e f:Int) (c:LT) (d b g:LS):Option R:=
 bif (decide (a<(b.length:Int))) then
  bif (decide (0≤a)&&decide (a<(b.length:Int))) then
   bif (decide (0≤a)&&decide (a<(b.length:Int))) then
    bif (decide (0≤(1:Int))&&decide ((1:Int)<(c.length:Int))) then
     bif (decide (d.length+([(Step.mk ((listAt b (Ty.dflt (.st 3)) a.toNat).act) (Tree.mk (3:Int) (0:Int) ([(Tree.mk ((listAt b (Ty.dflt (.st 3)) a.toNat).thn.op) ((listAt b (Ty.dflt (.st 3)) a.toNat).thn.n) ((listAt b (Ty.dflt (.st 3)) a.toNat).thn.parts)),(listAt c (Ty.dflt (.st 1)) (1:Int).toNat)]:LT)))]:LS).length≤lim)) then
      rec0 (wi (a+(1:Int))) e f c (d++([(Step.mk ((listAt b (Ty.dflt (.st 3)) a.toNat).act) (Tree.mk (3:Int) (0:Int) ([(Tree.mk ((listAt b (Ty.dflt (.st 3)) a.toNat).thn.op) ((listAt b (Ty.dflt (.st 3)) a.toNat).thn.n) ((listAt b (Ty.dflt (.st 3)) a.toNat).thn.parts)),(listAt c (Ty.dflt (.st 1)) (1:Int).toNat)]:LT)))]:LS)) b g
     else none
    else none
   else none
  else none
 else k0_e1 e f c d b g
def f98.s0 (L N:Nat) (self98:Tree->LT->Option (LS)) (k0_e1:Int->Int->LT->LS->LS->LS->Option R) (rec0:Int->Int->Int->LT->LS->LS->LS->Option R) (a b c:Int) (d:LT) (e f g:LS):Option R:=
 f98.s0' L N self98 k0_e1 rec0 a b c d e f g
def f98.l0 (L N:Nat) (self98:Tree->LT->Option (LS)) (k0_e1:Int->Int->LT->LS->LS->LS->Option R):Nat->Int->Int->Int->LT->LS->LS->LS->Option R
 |0,_,_,_,_,_,_,_=>none
 |n+1,a,b,c,d,e,f,g=>f98.s0 L N self98 k0_e1 (f98.l0 L N self98 k0_e1 n) a b c d e f g
def f98.T0 (a b c:Int) (d:LT) (e f g:LS):T:=mkT 217 [(2,(.ptr 1002 0)),(5,(.row 1014)),(6,(.row 1051)),(7,(.row 1057)),(8,(.tv i64 a))]
def f98.H0 (g a b:Int) (c:LT) (d e f:LS):H:=[(1002,(.box [(.tv i64 a),(.tv i64 b),(.tv (.sl (.st 1)) c)])),(1014,(.row 113 (.st 3) d)),(1051,(.row 113 (.st 3) e)),(1057,(.row 113 (.st 3) f))]
def f98.T0_e1 (a b:Int) (c:LT) (d e f:LS):T:=mkT 217 [(2,(.ptr 1002 0)),(5,(.row 1014)),(6,(.row 1051)),(7,(.row 1057))]
def f98.H0_e1 (a b:Int) (c:LT) (d e f:LS):H:=[(1002,(.box [(.tv i64 a),(.tv i64 b),(.tv (.sl (.st 1)) c)])),(1014,(.row 113 (.st 3) d)),(1051,(.row 113 (.st 3) e)),(1057,(.row 113 (.st 3) f))]
def f98.s1' (L N:Nat) (self98:Tree->LT->Option (LS)) (k1_e3:LS->LS->LS->Option R) (rec1:Int->Int->Int->LT->LS->LS->LS->Option R) (a f g:Int) (c:LT) (d e b:LS):Option R:=
 bif (decide (a<(b.length:Int))) then
  bif (decide (0≤a)&&decide (a<(b.length:Int))) then
   bif (decide (0≤(0:Int))&&decide ((0:Int)<(c.length:Int))) then
    bif (decide (0≤a)&&decide (a<(b.length:Int))) then
     bif (decide (d.length+([(Step.mk ((listAt b (Ty.dflt (.st 3)) a.toNat).act) (Tree.mk (3:Int) (0:Int) ([(listAt c (Ty.dflt (.st 1)) (0:Int).toNat),(Tree.mk ((listAt b (Ty.dflt (.st 3)) a.toNat).thn.op) ((listAt b (Ty.dflt (.st 3)) a.toNat).thn.n) ((listAt b (Ty.dflt (.st 3)) a.toNat).thn.parts))]:LT)))]:LS).length≤lim)) then
      rec1 (wi (a+(1:Int))) f g c (d++([(Step.mk ((listAt b (Ty.dflt (.st 3)) a.toNat).act) (Tree.mk (3:Int) (0:Int) ([(listAt c (Ty.dflt (.st 1)) (0:Int).toNat),(Tree.mk ((listAt b (Ty.dflt (.st 3)) a.toNat).thn.op) ((listAt b (Ty.dflt (.st 3)) a.toNat).thn.n) ((listAt b (Ty.dflt (.st 3)) a.toNat).thn.parts))]:LT)))]:LS)) e b
     else none
    else none
   else none
  else none
 else k1_e3 d e b
def f98.s1 (L N:Nat) (self98:Tree->LT->Option (LS)) (k1_e3:LS->LS->LS->Option R) (rec1:Int->Int->Int->LT->LS->LS->LS->Option R) (a b c:Int) (d:LT) (e f g:LS):Option R:=
 f98.s1' L N self98 k1_e3 rec1 a b c d e f g
def f98.l1 (L N:Nat) (self98:Tree->LT->Option (LS)) (k1_e3:LS->LS->LS->Option R):Nat->Int->Int->Int->LT->LS->LS->LS->Option R
 |0,_,_,_,_,_,_,_=>none
 |n+1,a,b,c,d,e,f,g=>f98.s1 L N self98 k1_e3 (f98.l1 L N self98 k1_e3 n) a b c d e f g
def f98.T1 (a b c:Int) (d:LT) (e f g:LS):T:=mkT 217 [(2,(.ptr 1002 0)),(5,(.row 1014)),(6,(.row 1051)),(7,(.row 1057)),(9,(.tv i64 a))]
def f98.H1 (g a b:Int) (c:LT) (d e f:LS):H:=[(1002,(.box [(.tv i64 a),(.tv i64 b),(.tv (.sl (.st 1)) c)])),(1014,(.row 113 (.st 3) d)),(1051,(.row 113 (.st 3) e)),(1057,(.row 113 (.st 3) f))]
def f98.T1_e3 (a b c:LS):T:=mkT 217 [(5,(.row 1014)),(6,(.row 1051)),(7,(.row 1057))]
def f98.H1_e3 (a b c:LS):H:=[(1014,(.row 113 (.st 3) a)),(1051,(.row 113 (.st 3) b)),(1057,(.row 113 (.st 3) c))]
def f98.j0' (L N:Nat) (self98:Tree->LT->Option (LS)) (k3_e7:Int->LS->LS->LS->Option R) (rec3:Int->Int->LS->LS->LS->Option R) (a b:Int) (f:Bool) (e c d:LS):Option R:=
 bif f then
  bif (decide (0≤a)&&decide (a<(c.length:Int))) then
   bif (decide (0≤b)&&decide (b<(d.length:Int))) then
    bif (decide (e.length+([(Step.mk (0:Int) (Tree.mk (3:Int) (0:Int) ([(Tree.mk ((listAt c (Ty.dflt (.st 3)) a.toNat).thn.op) ((listAt c (Ty.dflt (.st 3)) a.toNat).thn.n) ((listAt c (Ty.dflt (.st 3)) a.toNat).thn.parts)),(Tree.mk ((listAt d (Ty.dflt (.st 3)) b.toNat).thn.op) ((listAt d (Ty.dflt (.st 3)) b.toNat).thn.n) ((listAt d (Ty.dflt (.st 3)) b.toNat).thn.parts))]:LT)))]:LS).length≤lim)) then
     rec3 a (wi (b+(1:Int))) (e++([(Step.mk (0:Int) (Tree.mk (3:Int) (0:Int) ([(Tree.mk ((listAt c (Ty.dflt (.st 3)) a.toNat).thn.op) ((listAt c (Ty.dflt (.st 3)) a.toNat).thn.n) ((listAt c (Ty.dflt (.st 3)) a.toNat).thn.parts)),(Tree.mk ((listAt d (Ty.dflt (.st 3)) b.toNat).thn.op) ((listAt d (Ty.dflt (.st 3)) b.toNat).thn.n) ((listAt d (Ty.dflt (.st 3)) b.toNat).thn.parts))]:LT)))]:LS)) c d
    else none
   else none
  else none
 else rec3 a (wi (b+(1:Int))) e c d
def f98.s3' (L N:Nat) (self98:Tree->LT->Option (LS)) (k3_e7:Int->LS->LS->LS->Option R) (rec3:Int->Int->LS->LS->LS->Option R) (a c:Int) (e b d:LS):Option R:=
 bif (decide (c<(d.length:Int))) then
  bif (decide (0≤a)&&decide (a<(b.length:Int))) then
   bif ((listAt b (Ty.dflt (.st 3)) a.toNat).act !=(0:Int)) then
    bif (decide (0≤a)&&decide (a<(b.length:Int))) then
     bif (decide (0≤c)&&decide (c<(d.length:Int))) then
      f98.j0' L N self98 k3_e7 rec3 a c ((listAt b (Ty.dflt (.st 3)) a.toNat).act==(wi (0-(listAt d (Ty.dflt (.st 3)) c.toNat).act))) e b d
     else none
    else none
   else f98.j0' L N self98 k3_e7 rec3 a c false e b d
  else none
 else k3_e7 a e b d
def f98.s3 (L N:Nat) (self98:Tree->LT->Option (LS)) (k3_e7:Int->LS->LS->LS->Option R) (rec3:Int->Int->LS->LS->LS->Option R) (a b:Int) (c d e:LS):Option R:=
 f98.s3' L N self98 k3_e7 rec3 a b c d e
def f98.l3 (L N:Nat) (self98:Tree->LT->Option (LS)) (k3_e7:Int->LS->LS->LS->Option R):Nat->Int->Int->LS->LS->LS->Option R
 |0,_,_,_,_,_=>none
 |n+1,a,b,c,d,e=>f98.s3 L N self98 k3_e7 (f98.l3 L N self98 k3_e7 n) a b c d e
def f98.T3 (a b:Int) (c d e:LS):T:=mkT 217 [(5,(.row 1014)),(6,(.row 1051)),(7,(.row 1057)),(10,(.tv i64 a)),(11,(.tv i64 b))]
def f98.H3 (d e:Int) (a b c:LS):H:=[(1014,(.row 113 (.st 3) a)),(1051,(.row 113 (.st 3) b)),(1057,(.row 113 (.st 3) c))]
def f98.T3_e7 (a:Int) (b c d:LS):T:=mkT 217 [(5,(.row 1014)),(6,(.row 1051)),(7,(.row 1057)),(10,(.tv i64 a))]
def f98.H3_e7 (d:Int) (a b c:LS):H:=[(1014,(.row 113 (.st 3) a)),(1051,(.row 113 (.st 3) b)),(1057,(.row 113 (.st 3) c))]
def f98.p3_e7' (L N:Nat) (self98:Tree->LT->Option (LS)) (k2_e5:LS->Option R) (rec2:Int->LS->LS->LS->Option R) (a:Int) (b c d:LS):Option R:=
 rec2 (wi (a+(1:Int))) b c d
def f98.p3_e7 (L N:Nat) (self98:Tree->LT->Option (LS)) (k2_e5:LS->Option R) (rec2:Int->LS->LS->LS->Option R) (a:Int) (b c d:LS):Option R:=
 f98.p3_e7' L N self98 k2_e5 rec2 a b c d
def f98.s2' (L N:Nat) (self98:Tree->LT->Option (LS)) (k2_e5:LS->Option R) (rec2:Int->LS->LS->LS->Option R) (d:Int->Int->LS->LS->LS->Option R) (a:Int) (b c e:LS):Option R:=
 bif (decide (a<(c.length:Int))) then
  d a (0:Int) b c e
 else k2_e5 b
def f98.s2 (L N:Nat) (self98:Tree->LT->Option (LS)) (k2_e5:LS->Option R) (rec2:Int->LS->LS->LS->Option R) (a:Int) (b c d:LS):Option R:=
 f98.s2' L N self98 k2_e5 rec2 (fun e f g h i=>f98.l3 L N self98 (fun j k l m=>f98.p3_e7 L N self98 k2_e5 rec2 j k l m) L e f g h i) a b c d
def f98.l2 (L N:Nat) (self98:Tree->LT->Option (LS)) (k2_e5:LS->Option R):Nat->Int->LS->LS->LS->Option R
 |0,_,_,_,_=>none
 |n+1,a,b,c,d=>f98.s2 L N self98 k2_e5 (f98.l2 L N self98 k2_e5 n) a b c d
def f98.T2 (a:Int) (b c d:LS):T:=mkT 217 [(5,(.row 1014)),(6,(.row 1051)),(7,(.row 1057)),(10,(.tv i64 a))]
def f98.H2 (d:Int) (a b c:LS):H:=[(1014,(.row 113 (.st 3) a)),(1051,(.row 113 (.st 3) b)),(1057,(.row 113 (.st 3) c))]
def f98.T2_e5 (a:LS):T:=mkT 217 [(5,(.row 1014))]
def f98.H2_e5 (a:LS):H:=[(1014,(.row 113 (.st 3) a))]
def f98.p2_e5' (L N:Nat) (self98:Tree->LT->Option (LS)) (k:LS->Option R) (a:LS):Option R:=
 k a
def f98.p2_e5 (L N:Nat) (self98:Tree->LT->Option (LS)) (k:LS->Option R) (a:LS):Option R:=
 f98.p2_e5' L N self98 k a
def f98.p1_e3' (L N:Nat) (self98:Tree->LT->Option (LS)) (k:LS->Option R) (a:Int->LS->LS->LS->Option R) (b c d:LS):Option R:=
 a (0:Int) b c d
def f98.p1_e3 (L N:Nat) (self98:Tree->LT->Option (LS)) (k:LS->Option R) (a b c:LS):Option R:=
 f98.p1_e3' L N self98 k (fun d e f g=>f98.l2 L N self98 (fun h=>f98.p2_e5 L N self98 k h) L d e f g) a b c
def f98.p0_e1' (L N:Nat) (self98:Tree->LT->Option (LS)) (k:LS->Option R) (a:Int->Int->Int->LT->LS->LS->LS->Option R) (b c:Int) (d:LT) (e f g:LS):Option R:=
 a (0:Int) b c d e f g
def f98.p0_e1 (L N:Nat) (self98:Tree->LT->Option (LS)) (k:LS->Option R) (a b:Int) (c:LT) (d e f:LS):Option R:=
 f98.p0_e1' L N self98 k (fun g h i j l m n=>f98.l1 L N self98 (fun o p q=>f98.p1_e3 L N self98 k o p q) L g h i j l m n) a b c d e f
def f98.j1' (L N:Nat) (self98:Tree->LT->Option (LS)) (k4_e9:LS->Option R) (rec4:Int->Int->Int->LT->LS->LS->Option R) (a:Int) (g:Bool) (e c:Int) (f:LT) (d b:LS):Option R:=
 bif g then
  bif (decide (0≤a)&&decide (a<(b.length:Int))) then
   bif (decide (0≤a)&&decide (a<(b.length:Int))) then
    bif (decide (d.length+([(Step.mk ((listAt b (Ty.dflt (.st 3)) a.toNat).act) (Tree.mk (4:Int) c ([(Tree.mk ((listAt b (Ty.dflt (.st 3)) a.toNat).thn.op) ((listAt b (Ty.dflt (.st 3)) a.toNat).thn.n) ((listAt b (Ty.dflt (.st 3)) a.toNat).thn.parts))]:LT)))]:LS).length≤lim)) then
     rec4 (wi (a+(1:Int))) e c f (d++([(Step.mk ((listAt b (Ty.dflt (.st 3)) a.toNat).act) (Tree.mk (4:Int) c ([(Tree.mk ((listAt b (Ty.dflt (.st 3)) a.toNat).thn.op) ((listAt b (Ty.dflt (.st 3)) a.toNat).thn.n) ((listAt b (Ty.dflt (.st 3)) a.toNat).thn.parts))]:LT)))]:LS)) b
    else none
   else none
  else none
 else rec4 (wi (a+(1:Int))) e c f d b
def f98.s4' (L N:Nat) (self98:Tree->LT->Option (LS)) (k4_e9:LS->Option R) (rec4:Int->Int->Int->LT->LS->LS->Option R) (a e c:Int) (f:LT) (d b:LS):Option R:=
 bif (decide (a<(b.length:Int))) then
  bif (decide (0≤a)&&decide (a<(b.length:Int))) then
   bif ((listAt b (Ty.dflt (.st 3)) a.toNat).act==(0:Int)) then
    f98.j1' L N self98 k4_e9 rec4 a true e c f d b
   else bif (decide (0≤a)&&decide (a<(b.length:Int))) then
    (f135 L N ((listAt b (Ty.dflt (.st 3)) a.toNat).act)).bind fun g=>
    f98.j1' L N self98 k4_e9 rec4 a (g !=c) e c f d b
   else none
  else none
 else k4_e9 d
def f98.s4 (L N:Nat) (self98:Tree->LT->Option (LS)) (k4_e9:LS->Option R) (rec4:Int->Int->Int->LT->LS->LS->Option R) (a b c:Int) (d:LT) (e f:LS):Option R:=
 f98.s4' L N self98 k4_e9 rec4 a b c d e f
def f98.l4 (L N:Nat) (self98:Tree->LT->Option (LS)) (k4_e9:LS->Option R):Nat->Int->Int->Int->LT->LS->LS->Option R
 |0,_,_,_,_,_,_=>none
 |n+1,a,b,c,d,e,f=>f98.s4 L N self98 k4_e9 (f98.l4 L N self98 k4_e9 n) a b c d e f
def f98.T4 (a b c:Int) (d:LT) (e f:LS):T:=mkT 217 [(2,(.ptr 1002 0)),(5,(.row 1014)),(12,(.row 1165)),(13,(.tv i64 a))]
def f98.H4 (f a b:Int) (c:LT) (d e:LS):H:=[(1002,(.box [(.tv i64 a),(.tv i64 b),(.tv (.sl (.st 1)) c)])),(1014,(.row 113 (.st 3) d)),(1165,(.row 113 (.st 3) e))]
def f98.T4_e9 (a:LS):T:=mkT 217 [(5,(.row 1014))]
def f98.H4_e9 (a:LS):H:=[(1014,(.row 113 (.st 3) a))]
def f98.p4_e9' (L N:Nat) (self98:Tree->LT->Option (LS)) (k:LS->Option R) (a:LS):Option R:=
 k a
def f98.p4_e9 (L N:Nat) (self98:Tree->LT->Option (LS)) (k:LS->Option R) (a:LS):Option R:=
 f98.p4_e9' L N self98 k a
def f98.b' (L N:Nat) (self98:Tree->LT->Option (LS)) (k:LS->Option R) (e:Int->Int->Int->LT->LS->LS->LS->Option R) (f:Int->Int->Int->LT->LS->LS->Option R) (a:Tree) (b:LT):Option R:=
 bif (a.op==(1:Int)) then
  bif (decide (0≤(0:Int))&&decide ((0:Int)<(a.parts.length:Int))) then
   bif (decide (([]:LS).length+([(Step.mk a.n (Tree.mk ((listAt a.parts (Ty.dflt (.st 1)) (0:Int).toNat).op) ((listAt a.parts (Ty.dflt (.st 1)) (0:Int).toNat).n) ((listAt a.parts (Ty.dflt (.st 1)) (0:Int).toNat).parts)))]:LS).length≤lim)) then
    k (([]:LS)++([(Step.mk a.n (Tree.mk ((listAt a.parts (Ty.dflt (.st 1)) (0:Int).toNat).op) ((listAt a.parts (Ty.dflt (.st 1)) (0:Int).toNat).n) ((listAt a.parts (Ty.dflt (.st 1)) (0:Int).toNat).parts)))]:LS))
   else none
  else none
 else bif (a.op==(2:Int)) then
  bif (decide (0≤(0:Int))&&decide ((0:Int)<(a.parts.length:Int))) then
   (self98 (listAt a.parts (Ty.dflt (.st 1)) (0:Int).toNat) b).bind fun c=>
   bif (decide (0≤(1:Int))&&decide ((1:Int)<(a.parts.length:Int))) then
    (self98 (listAt a.parts (Ty.dflt (.st 1)) (1:Int).toNat) b).bind fun d=>
    bif (decide (c.length+d.length≤lim)) then
     k (c++d)
    else none
   else none
  else none
 else bif (a.op==(3:Int)) then
  bif (decide (0≤(0:Int))&&decide ((0:Int)<(a.parts.length:Int))) then
   (self98 (listAt a.parts (Ty.dflt (.st 1)) (0:Int).toNat) b).bind fun g=>
   bif (decide (0≤(1:Int))&&decide ((1:Int)<(a.parts.length:Int))) then
    (self98 (listAt a.parts (Ty.dflt (.st 1)) (1:Int).toNat) b).bind fun h=>
    e (0:Int) a.op a.n a.parts ([]:LS) g h
   else none
  else none
 else bif (a.op==(4:Int)) then
  bif (decide (0≤(0:Int))&&decide ((0:Int)<(a.parts.length:Int))) then
   (self98 (listAt a.parts (Ty.dflt (.st 1)) (0:Int).toNat) b).bind fun i=>
   f (0:Int) a.op a.n a.parts ([]:LS) i
  else none
 else bif (a.op==(5:Int)) then
  bif (decide (0≤a.n)&&decide (a.n<(b.length:Int))) then
   (self98 (listAt b (Ty.dflt (.st 1)) a.n.toNat) b).bind fun j=>
   k j
  else none
 else k ([]:LS)
def f98.b (L N:Nat) (self98:Tree->LT->Option (LS)) (k:LS->Option R) (a:Tree) (c:LT):Option R:=
 f98.b' L N self98 k (fun d e f g h i j=>f98.l0 L N self98 (fun l m n o p q=>f98.p0_e1 L N self98 k l m n o p q) L d e f g h i j) (fun r s t u v w=>f98.l4 L N self98 (fun x=>f98.p4_e9 L N self98 k x) L r s t u v w) a c
def f98 (L N:Nat):Nat->Tree->LT->Option (LS)
 |0,_,_=>none
 |n+1,a,c=>f98.b L N (f98 L N n) some a c
def f98.ent (L N m:Nat) (args:List AV) (vw:View) (site:Nat):Ans:=match coeD [(.st 1),(.sl (.st 1))] vw args with
 |some (d,u)=>⟨LS,f98 L N m d.1 d.2.1,fun y=>(.row site,u++[(site,some (.row 113 (.st 3) y))],[])⟩
 |none=>Ans.no
def Φ98s (L N m:Nat):Tells:=(addT (Φ135 L N) 98 (f98.ent L N m))
noncomputable def E98 (L N m:Nat):Env:={P:=Tryz.prog,ty:=tyOf,Φ:=Φ98s L N m,inl:=inlT,live:=lives,liveX:=livesX,L:=L,dp:=none,prom:=promT,heal:=healT,ren:=renT}
noncomputable def f98.c0:Code:=loopAt 1 (codeOf Tryz.f98)
def f98.X0_e1 (κ:KX R):=fun a b c d e f=>κ (.exit 1) (f98.T0_e1 a b c d e f) (f98.H0_e1 a b c d e f)
def f98.R0 (rec:KT R):=fun a b c d e f g=>rec (f98.T0 a b c d e f g) (f98.H0 a b c d e f g)
theorem f98.s0_eq (L N m:Nat) (κ:KX R) (rec:KT R) (a b c:Int) (d:LT) (e f g:LS):
  evRd (E98 L N m) (evCallI (E98 L N m) 0 1000) 1000 98 217 1 f98.c0 κ rec (f98.T0 a b c d e f g) (f98.H0 a b c d e f g)
  =f98.s0 L N (f98 L N m) (f98.X0_e1 κ) (f98.R0 rec) a b c d e f g:=by kernel_rfl
theorem f98.l0_eq (L N m:Nat) (κ:KX R):∀(n:Nat) (a b c:Int) (d:LT) (e f g:LS),
  evLp (E98 L N m) (evCallI (E98 L N m) 0 1000) 1000 98 217 1 f98.c0 κ n (f98.T0 a b c d e f g) (f98.H0 a b c d e f g)
  =f98.l0 L N (f98 L N m) (f98.X0_e1 κ) n a b c d e f g:=by
 intro n
 induction n with
 |zero=>intros;rfl
 |succ n ih=>
  intro a b c d e f g
  rw [evLp_succ,f98.s0_eq]
  delta f98.R0
  simp only [ih]
  rfl
noncomputable def f98.c1:Code:=loopAt 3 (codeOf Tryz.f98)
def f98.X1_e3 (κ:KX R):=fun a b c=>κ (.exit 3) (f98.T1_e3 a b c) (f98.H1_e3 a b c)
def f98.R1 (rec:KT R):=fun a b c d e f g=>rec (f98.T1 a b c d e f g) (f98.H1 a b c d e f g)
theorem f98.s1_eq (L N m:Nat) (κ:KX R) (rec:KT R) (a b c:Int) (d:LT) (e f g:LS):
  evRd (E98 L N m) (evCallI (E98 L N m) 0 1000) 1000 98 217 3 f98.c1 κ rec (f98.T1 a b c d e f g) (f98.H1 a b c d e f g)
  =f98.s1 L N (f98 L N m) (f98.X1_e3 κ) (f98.R1 rec) a b c d e f g:=by kernel_rfl
theorem f98.l1_eq (L N m:Nat) (κ:KX R):∀(n:Nat) (a b c:Int) (d:LT) (e f g:LS),
  evLp (E98 L N m) (evCallI (E98 L N m) 0 1000) 1000 98 217 3 f98.c1 κ n (f98.T1 a b c d e f g) (f98.H1 a b c d e f g)
  =f98.l1 L N (f98 L N m) (f98.X1_e3 κ) n a b c d e f g:=by
 intro n
 induction n with
 |zero=>intros;rfl
 |succ n ih=>
  intro a b c d e f g
  rw [evLp_succ,f98.s1_eq]
  delta f98.R1
  simp only [ih]
  rfl
noncomputable def f98.c2:Code:=loopAt 5 (codeOf Tryz.f98)
noncomputable def f98.c3:Code:=loopAt 7 f98.c2
def f98.X3_e7 (κ:KX R):=fun a b c d=>κ (.exit 7) (f98.T3_e7 a b c d) (f98.H3_e7 a b c d)
def f98.R3 (rec:KT R):=fun a b c d e=>rec (f98.T3 a b c d e) (f98.H3 a b c d e)
theorem f98.s3_eq (L N m:Nat) (κ:KX R) (rec:KT R) (a b:Int) (c d e:LS):
  evRd (E98 L N m) (evCallI (E98 L N m) 0 1000) 1000 98 217 7 f98.c3 κ rec (f98.T3 a b c d e) (f98.H3 a b c d e)
  =f98.s3 L N (f98 L N m) (f98.X3_e7 κ) (f98.R3 rec) a b c d e:=by kernel_rfl
theorem f98.l3_eq (L N m:Nat) (κ:KX R):∀(n:Nat) (a b:Int) (c d e:LS),
  evLp (E98 L N m) (evCallI (E98 L N m) 0 1000) 1000 98 217 7 f98.c3 κ n (f98.T3 a b c d e) (f98.H3 a b c d e)
  =f98.l3 L N (f98 L N m) (f98.X3_e7 κ) n a b c d e:=by
 intro n
 induction n with
 |zero=>intros;rfl
 |succ n ih=>
  intro a b c d e
  rw [evLp_succ,f98.s3_eq]
  delta f98.R3
  simp only [ih]
  rfl
def f98.X2_e5 (κ:KX R):=fun a=>κ (.exit 5) (f98.T2_e5 a) (f98.H2_e5 a)
def f98.R2 (rec:KT R):=fun a b c d=>rec (f98.T2 a b c d) (f98.H2 a b c d)
theorem f98.p3_e7_eq (L N m:Nat) (κ:KX R) (rec:KT R) (a:Int) (b c d:LS):
  (contAt (E98 L N m) (evCallI (E98 L N m) 0 1000) 1000 98 217 7 f98.c2 (rdK (E98 L N m) 1000 98 217 5 κ rec)) (.exit 7) (f98.T3_e7 a b c d) (f98.H3_e7 a b c d)
  =f98.p3_e7 L N (f98 L N m) (f98.X2_e5 κ) (f98.R2 rec) a b c d:=by kernel_rfl
theorem f98.s2_eq (L N m:Nat) (κ:KX R) (rec:KT R) (a:Int) (c d e:LS):
  evRd (E98 L N m) (evCallI (E98 L N m) 0 1000) 1000 98 217 5 f98.c2 κ rec (f98.T2 a c d e) (f98.H2 a c d e)
  =f98.s2 L N (f98 L N m) (f98.X2_e5 κ) (f98.R2 rec) a c d e:=by
 refine Eq.trans (b:=f98.s2' L N (f98 L N m) (f98.X2_e5 κ) (f98.R2 rec) (fun f g h i j=>evLp (E98 L N m) (evCallI (E98 L N m) 0 1000) 1000 98 217 7 f98.c3 (contAt (E98 L N m) (evCallI (E98 L N m) 0 1000) 1000 98 217 7 f98.c2 (rdK (E98 L N m) 1000 98 217 5 κ rec)) L (f98.T3 f g h i j) (f98.H3 f g h i j)) a c d e) (by kernel_rfl) ?_
 unfold f98.s2
 simp only [f98.l3_eq]
 delta f98.X3_e7
 simp only [f98.p3_e7_eq]
theorem f98.l2_eq (L N m:Nat) (κ:KX R):∀(n:Nat) (a:Int) (b c d:LS),
  evLp (E98 L N m) (evCallI (E98 L N m) 0 1000) 1000 98 217 5 f98.c2 κ n (f98.T2 a b c d) (f98.H2 a b c d)
  =f98.l2 L N (f98 L N m) (f98.X2_e5 κ) n a b c d:=by
 intro n
 induction n with
 |zero=>intros;rfl
 |succ n ih=>
  intro a b c d
  rw [evLp_succ,f98.s2_eq]
  delta f98.R2
  simp only [ih]
  rfl
theorem f98.p2_e5_eq (L N m:Nat) (κ:List Step->Option R) (a:LS):
  (contAt (E98 L N m) (evCallI (E98 L N m) 0 1000) 1000 98 217 5 (codeOf Tryz.f98) (finK (E98 L N m) 1000 Tryz.f98 (finRow 113 (.st 3) κ))) (.exit 5) (f98.T2_e5 a) (f98.H2_e5 a)
  =f98.p2_e5 L N (f98 L N m) κ a:=by kernel_rfl
theorem f98.p1_e3_eq (L N m:Nat) (κ:List Step->Option R) (a c d:LS):
  (contAt (E98 L N m) (evCallI (E98 L N m) 0 1000) 1000 98 217 3 (codeOf Tryz.f98) (finK (E98 L N m) 1000 Tryz.f98 (finRow 113 (.st 3) κ))) (.exit 3) (f98.T1_e3 a c d) (f98.H1_e3 a c d)
  =f98.p1_e3 L N (f98 L N m) κ a c d:=by
 refine Eq.trans (b:=f98.p1_e3' L N (f98 L N m) κ (fun e f g h=>evLp (E98 L N m) (evCallI (E98 L N m) 0 1000) 1000 98 217 5 f98.c2 (contAt (E98 L N m) (evCallI (E98 L N m) 0 1000) 1000 98 217 5 (codeOf Tryz.f98) (finK (E98 L N m) 1000 Tryz.f98 (finRow 113 (.st 3) κ))) L (f98.T2 e f g h) (f98.H2 e f g h)) a c d) (by kernel_rfl) ?_
 unfold f98.p1_e3
 simp only [f98.l2_eq]
 delta f98.X2_e5
 simp only [f98.p2_e5_eq]
theorem f98.p0_e1_eq (L N m:Nat) (κ:List Step->Option R) (a c:Int) (d:LT) (e f g:LS):
  (contAt (E98 L N m) (evCallI (E98 L N m) 0 1000) 1000 98 217 1 (codeOf Tryz.f98) (finK (E98 L N m) 1000 Tryz.f98 (finRow 113 (.st 3) κ))) (.exit 1) (f98.T0_e1 a c d e f g) (f98.H0_e1 a c d e f g)
  =f98.p0_e1 L N (f98 L N m) κ a c d e f g:=by
 refine Eq.trans (b:=f98.p0_e1' L N (f98 L N m) κ (fun h i j k l n o=>evLp (E98 L N m) (evCallI (E98 L N m) 0 1000) 1000 98 217 3 f98.c1 (contAt (E98 L N m) (evCallI (E98 L N m) 0 1000) 1000 98 217 3 (codeOf Tryz.f98) (finK (E98 L N m) 1000 Tryz.f98 (finRow 113 (.st 3) κ))) L (f98.T1 h i j k l n o) (f98.H1 h i j k l n o)) a c d e f g) (by kernel_rfl) ?_
 unfold f98.p0_e1
 simp only [f98.l1_eq]
 delta f98.X1_e3
 simp only [f98.p1_e3_eq]
noncomputable def f98.c4:Code:=loopAt 9 (codeOf Tryz.f98)
def f98.X4_e9 (κ:KX R):=fun a=>κ (.exit 9) (f98.T4_e9 a) (f98.H4_e9 a)
def f98.R4 (rec:KT R):=fun a b c d e f=>rec (f98.T4 a b c d e f) (f98.H4 a b c d e f)
theorem f98.s4_eq (L N m:Nat) (κ:KX R) (rec:KT R) (a b c:Int) (d:LT) (e f:LS):
  evRd (E98 L N m) (evCallI (E98 L N m) 0 1000) 1000 98 217 9 f98.c4 κ rec (f98.T4 a b c d e f) (f98.H4 a b c d e f)
  =f98.s4 L N (f98 L N m) (f98.X4_e9 κ) (f98.R4 rec) a b c d e f:=by kernel_rfl
theorem f98.l4_eq (L N m:Nat) (κ:KX R):∀(n:Nat) (a b c:Int) (d:LT) (e f:LS),
  evLp (E98 L N m) (evCallI (E98 L N m) 0 1000) 1000 98 217 9 f98.c4 κ n (f98.T4 a b c d e f) (f98.H4 a b c d e f)
  =f98.l4 L N (f98 L N m) (f98.X4_e9 κ) n a b c d e f:=by
 intro n
 induction n with
 |zero=>intros;rfl
 |succ n ih=>
  intro a b c d e f
  rw [evLp_succ,f98.s4_eq]
  delta f98.R4
  simp only [ih]
  rfl
theorem f98.p4_e9_eq (L N m:Nat) (κ:List Step->Option R) (a:LS):
  (contAt (E98 L N m) (evCallI (E98 L N m) 0 1000) 1000 98 217 9 (codeOf Tryz.f98) (finK (E98 L N m) 1000 Tryz.f98 (finRow 113 (.st 3) κ))) (.exit 9) (f98.T4_e9 a) (f98.H4_e9 a)
  =f98.p4_e9 L N (f98 L N m) κ a:=by kernel_rfl
theorem f98.b_eq (L N m:Nat) (κ:List Step->Option R) (a:Tree) (c:LT):
  evBody (E98 L N m) (evCallI (E98 L N m) 0 1000) 1000 98 Tryz.f98 [(.tv (.st 1) a),(.tv (.sl (.st 1)) c)] [] [] (finRow 113 (.st 3) κ)
  =f98.b L N (f98 L N m) κ a c:=by
 refine Eq.trans (b:=f98.b' L N (f98 L N m) κ (fun d e f g h i j=>evLp (E98 L N m) (evCallI (E98 L N m) 0 1000) 1000 98 217 1 f98.c0 (contAt (E98 L N m) (evCallI (E98 L N m) 0 1000) 1000 98 217 1 (codeOf Tryz.f98) (finK (E98 L N m) 1000 Tryz.f98 (finRow 113 (.st 3) κ))) L (f98.T0 d e f g h i j) (f98.H0 d e f g h i j)) (fun k l n o p q=>evLp (E98 L N m) (evCallI (E98 L N m) 0 1000) 1000 98 217 9 f98.c4 (contAt (E98 L N m) (evCallI (E98 L N m) 0 1000) 1000 98 217 9 (codeOf Tryz.f98) (finK (E98 L N m) 1000 Tryz.f98 (finRow 113 (.st 3) κ))) L (f98.T4 k l n o p q) (f98.H4 k l n o p q)) a c) (by kernel_rfl) ?_
 unfold f98.b
 simp only [f98.l0_eq,f98.l4_eq]
 delta f98.X0_e1 f98.X4_e9
 simp only [f98.p0_e1_eq,f98.p4_e9_eq]
theorem f98.ok (L N m:Nat) (hΦ:TellsOk Tryz.prog (Φ98s L N m)):EntOk Tryz.prog 98 (f98.ent L N (m+1)):=by
 intro args vw site h
 unfold f98.ent
 split
 ·rename_i d u ha
  intro y hy hs
  refine call_row (dep:=1000) (E:=(E98 L N m)) (sound_of hΦ) okP (callI_sound (sound_of hΦ) okP 0 1000) (f:=Tryz.f98) rfl hs ha ?_ site
  exact (f98.b_eq L N m some d.1 d.2.1).trans hy
 ·intro y hy
  cases hy
theorem Φ98s_ok (L N:Nat):∀m,TellsOk Tryz.prog (Φ98s L N m):=by
 intro m
 induction m with
 |zero=>exact (addT_ok (Φ135_ok L N) (fun args vw site h=>by unfold f98.ent;split<;>(intro y hy;cases hy)))
 |succ m ih=>exact (addT_ok (Φ135_ok L N) (f98.ok L N m ih))
def Φ98 (L N:Nat):Tells:=(addT (Φ135 L N) 98 (f98.ent L N N))
theorem Φ98_ok (L N:Nat):TellsOk Tryz.prog (Φ98 L N):=Φ98s_ok L N N
def f136.b' (L N:Nat) (self136:Int->Option (ByteArray)) (k:ByteArray->Option R) (a:Int):Option R:=
 bif (decide (a<(-9223372036854775807:Int))) then
  k (ByteArray.mk #[45,57,50,50,51,51,55,50,48,51,54,56,53,52,55,55,53,56,48,56])
 else bif (decide (a<(0:Int))) then
  (self136 (wi (0-a))).bind fun b=>
  bif (decide ((ByteArray.mk #[45]).size+b.size≤4611686018427387904)) then
   k ((ByteArray.mk #[45])++b)
  else none
 else bif (decide (a<(10:Int))) then
  k (strOfNums ([(IntKind.wrap .u8 ((wi ((48:Int)+a))))]:LI))
 else bif (decide ((10:Int)=0)) then
  none
 else (self136 (wi (Int.tdiv a (10:Int)))).bind fun c=>
 bif (decide ((10:Int)=0)) then
  none
 else bif (decide (c.size+(strOfNums ([(IntKind.wrap .u8 ((wi ((48:Int)+(Int.tmod a (10:Int))))))]:LI)).size≤4611686018427387904)) then
  k (c++(strOfNums ([(IntKind.wrap .u8 ((wi ((48:Int)+(Int.tmod a (10:Int))))))]:LI)))
 else none
def f136.b (L N:Nat) (self136:Int->Option (ByteArray)) (k:ByteArray->Option R) (a:Int):Option R:=
 f136.b' L N self136 k a
def f136 (L N:Nat):Nat->Int->Option (ByteArray)
 |0,_=>none
 |n+1,a=>f136.b L N (f136 L N n) some a
def f136.ent (L N m:Nat):=entRo [i64] (.one .str) fun d=>f136 L N m d.1
def Φ136s (L N m:Nat):Tells:=(addT (Φ98 L N) 136 (f136.ent L N m))
noncomputable def E136 (L N m:Nat):Env:={P:=Tryz.prog,ty:=tyOf,Φ:=Φ136s L N m,inl:=inlT,live:=lives,liveX:=livesX,L:=L,dp:=none,prom:=promT,heal:=healT,ren:=renT}
theorem f136.b_eq (L N m:Nat) (κ:AV->Option R) (a:Int):
  evBody (E136 L N m) (evCallI (E136 L N m) 0 1000) 1000 136 Tryz.f136 [(.tv i64 a)] [] [] (finC (.one .str) κ)
  =f136.b L N (f136 L N m) (fun a0=>κ (.tv .str a0)) a:=by kernel_rfl
theorem f136.ok (L N m:Nat) (hΦ:TellsOk Tryz.prog (Φ136s L N m)):EntOk Tryz.prog 136 (f136.ent L N (m+1)):=entRo_ok (E:=(E136 L N m)) (dep:=1000) (f:=Tryz.f136) (sound_of hΦ) okP (callI_sound (sound_of hΦ) okP 0 1000) rfl rfl fun d _ hy=>(f136.b_eq L N m (unR (.one .str)) d.1).trans (Eq.trans (b:=f136.b L N (f136 L N m) some d.1) (by kernel_rfl) hy)
theorem Φ136s_ok (L N:Nat):∀m,TellsOk Tryz.prog (Φ136s L N m):=by
 intro m
 induction m with
 |zero=>exact (addT_ok (Φ98_ok L N) (entRo_no fun _=>rfl))
 |succ m ih=>exact (addT_ok (Φ98_ok L N) (f136.ok L N m ih))
def Φ136 (L N:Nat):Tells:=(addT (Φ98 L N) 136 (f136.ent L N N))
theorem Φ136_ok (L N:Nat):TellsOk Tryz.prog (Φ136 L N):=Φ136s_ok L N N
def f137.b' (L N:Nat) (k:LY->Option R):Option R:=
 k ([(ByteArray.mk #[]),(ByteArray.mk #[97,99,116]),(ByteArray.mk #[115,117,109]),(ByteArray.mk #[112,97,114]),(ByteArray.mk #[104,105,100,101])]:LY)
def f137.b (L N:Nat) (k:LY->Option R):Option R:=
 f137.b' L N k
def f137 (L N:Nat):Option (LY):=f137.b L N some
def f137.ent (L N:Nat):=entDa [] (.one (.sl .str)) fun d=>f137 L N
noncomputable def E137 (L N:Nat):Env:={P:=Tryz.prog,ty:=tyOf,Φ:=(Φ136 L N),inl:=inlT,live:=lives,liveX:=livesX,L:=L,dp:=none,prom:=promT,heal:=healT,ren:=renT}
theorem f137.b_eq (L N:Nat) (κ:AV->Option R):
  evBody (E137 L N) (evCallI (E137 L N) 0 1000) 1000 137 Tryz.f137 [] [] [] (finC (.one (.sl .str)) κ)
  =f137.b L N (fun a0=>κ (.tv (.sl .str) a0)):=by kernel_rfl
theorem f137.ok (L N:Nat) (hΦ:TellsOk Tryz.prog ((Φ136 L N))):EntOk Tryz.prog 137 (f137.ent L N):=entDa_ok (E:=(E137 L N)) (dep:=1000) (f:=Tryz.f137) (sound_of hΦ) okP (callI_sound (sound_of hΦ) okP 0 1000) rfl fun _ _ hy=>(f137.b_eq L N (unR (.one (.sl .str)))).trans (Eq.trans (b:=f137.b L N some) (by kernel_rfl) hy)
def Φ137 (L N:Nat):Tells:=(addT (Φ136 L N) 137 (f137.ent L N))
theorem Φ137_ok (L N:Nat):TellsOk Tryz.prog (Φ137 L N):=addT_ok (Φ136_ok L N) (f137.ok L N (Φ136_ok L N))
def f138.b' (L N:Nat) (k:ByteArray->Option R) (a:Int):Option R:=
 bif (a==(0:Int)) then
  k (ByteArray.mk #[116,97,117])
 else bif (decide (a<(0:Int))) then
  (f135 L N a).bind fun b=>
  (f135 L N a).bind fun c=>
  bif (slB b (wi (c+(1:Int))) (ByteArray.mk #[97,98,99,100]).size) then
   bif (decide ((ByteArray.mk #[33]).size+((ByteArray.mk #[97,98,99,100]).extract b.toNat (wi (c+(1:Int))).toNat).size≤4611686018427387904)) then
    k ((ByteArray.mk #[33])++((ByteArray.mk #[97,98,99,100]).extract b.toNat (wi (c+(1:Int))).toNat))
   else none
  else none
 else (f135 L N a).bind fun d=>
 (f135 L N a).bind fun e=>
 bif (slB d (wi (e+(1:Int))) (ByteArray.mk #[97,98,99,100]).size) then
  k ((ByteArray.mk #[97,98,99,100]).extract d.toNat (wi (e+(1:Int))).toNat)
 else none
def f138.b (L N:Nat) (k:ByteArray->Option R) (a:Int):Option R:=
 f138.b' L N k a
def f138 (L N:Nat) (a:Int):Option (ByteArray):=f138.b L N some a
def f138.ent (L N:Nat):=entRo [i64] (.one .str) fun d=>f138 L N d.1
noncomputable def E138 (L N:Nat):Env:={P:=Tryz.prog,ty:=tyOf,Φ:=(Φ137 L N),inl:=inlT,live:=lives,liveX:=livesX,L:=L,dp:=none,prom:=promT,heal:=healT,ren:=renT}
theorem f138.b_eq (L N:Nat) (κ:AV->Option R) (a:Int):
  evBody (E138 L N) (evCallI (E138 L N) 0 1000) 1000 138 Tryz.f138 [(.tv i64 a)] [] [] (finC (.one .str) κ)
  =f138.b L N (fun a0=>κ (.tv .str a0)) a:=by kernel_rfl
theorem f138.ok (L N:Nat) (hΦ:TellsOk Tryz.prog ((Φ137 L N))):EntOk Tryz.prog 138 (f138.ent L N):=entRo_ok (E:=(E138 L N)) (dep:=1000) (f:=Tryz.f138) (sound_of hΦ) okP (callI_sound (sound_of hΦ) okP 0 1000) rfl rfl fun d _ hy=>(f138.b_eq L N (unR (.one .str)) d.1).trans (Eq.trans (b:=f138.b L N some d.1) (by kernel_rfl) hy)
def Φ138 (L N:Nat):Tells:=(addT (Φ137 L N) 138 (f138.ent L N))
theorem Φ138_ok (L N:Nat):TellsOk Tryz.prog (Φ138 L N):=addT_ok (Φ137_ok L N) (f138.ok L N (Φ137_ok L N))
def f99.s0' (L N:Nat) (self99:Tree->Option (ByteArray)) (k0_e1:ByteArray->Option R) (rec0:ByteArray->Int->Int->Int->LT->Option R) (b:ByteArray) (a e f:Int) (c:LT):Option R:=
 bif (decide (a<(c.length:Int))) then
  bif (decide (b.size+(ByteArray.mk #[32]).size≤4611686018427387904)) then
   bif (decide (0≤a)&&decide (a<(c.length:Int))) then
    (self99 (listAt c (Ty.dflt (.st 1)) a.toNat)).bind fun d=>
    bif (decide ((b++(ByteArray.mk #[32])).size+d.size≤4611686018427387904)) then
     rec0 ((b++(ByteArray.mk #[32]))++d) (wi (a+(1:Int))) e f c
    else none
   else none
  else none
 else k0_e1 b
def f99.s0 (L N:Nat) (self99:Tree->Option (ByteArray)) (k0_e1:ByteArray->Option R) (rec0:ByteArray->Int->Int->Int->LT->Option R) (a:ByteArray) (b c d:Int) (e:LT):Option R:=
 f99.s0' L N self99 k0_e1 rec0 a b c d e
def f99.l0 (L N:Nat) (self99:Tree->Option (ByteArray)) (k0_e1:ByteArray->Option R):Nat->ByteArray->Int->Int->Int->LT->Option R
 |0,_,_,_,_,_=>none
 |n+1,a,b,c,d,e=>f99.s0 L N self99 k0_e1 (f99.l0 L N self99 k0_e1 n) a b c d e
def f99.T0 (a:ByteArray) (b c d:Int) (e:LT):T:=mkT 58 [(1,(.ptr 1001 0)),(3,(.tv .str a)),(4,(.tv i64 b))]
def f99.H0 (d:ByteArray) (e a b:Int) (c:LT):H:=[(1001,(.box [(.tv i64 a),(.tv i64 b),(.tv (.sl (.st 1)) c)]))]
def f99.T0_e1 (a:ByteArray):T:=mkT 58 [(3,(.tv .str a))]
def f99.H0_e1 (a:ByteArray):H:=[]
def f99.p0_e1' (L N:Nat) (self99:Tree->Option (ByteArray)) (k:ByteArray->Option R) (a:ByteArray):Option R:=
 bif (decide (a.size+(ByteArray.mk #[41]).size≤4611686018427387904)) then
  k (a++(ByteArray.mk #[41]))
 else none
def f99.p0_e1 (L N:Nat) (self99:Tree->Option (ByteArray)) (k:ByteArray->Option R) (a:ByteArray):Option R:=
 f99.p0_e1' L N self99 k a
def f99.j0' (L N:Nat) (self99:Tree->Option (ByteArray)) (k:ByteArray->Option R) (a:ByteArray->Int->Int->Int->LT->Option R) (b:ByteArray) (c d:Int) (e:LT):Option R:=
 a b (0:Int) c d e
def f99.j1' (L N:Nat) (self99:Tree->Option (ByteArray)) (k:ByteArray->Option R) (d:ByteArray->Int->Int->Int->LT->Option R) (a:ByteArray) (b c:Int) (e:LT):Option R:=
 bif (b==(4:Int)) then
  bif (decide (a.size+(ByteArray.mk #[32]).size≤4611686018427387904)) then
   (f138 L N (wi (c+(1:Int)))).bind fun f=>
   bif (decide ((a++(ByteArray.mk #[32])).size+f.size≤4611686018427387904)) then
    f99.j0' L N self99 k d ((a++(ByteArray.mk #[32]))++f) b c e
   else none
  else none
 else f99.j0' L N self99 k d a b c e
def f99.b' (L N:Nat) (self99:Tree->Option (ByteArray)) (k:ByteArray->Option R) (c:ByteArray->Int->Int->Int->LT->Option R) (a:Tree):Option R:=
 bif (a.op==(0:Int)) then
  k (ByteArray.mk #[48])
 else bif (a.op==(5:Int)) then
  (f136 L N N a.n).bind fun d=>
  bif (decide ((ByteArray.mk #[88]).size+d.size≤4611686018427387904)) then
   k ((ByteArray.mk #[88])++d)
  else none
 else (f137 L N).bind fun b=>
 bif (decide (0≤a.op)&&decide (a.op<(b.length:Int))) then
  bif (decide ((ByteArray.mk #[40]).size+(listAt b ByteArray.empty a.op.toNat).size≤4611686018427387904)) then
   bif (a.op==(1:Int)) then
    bif (decide (((ByteArray.mk #[40])++(listAt b ByteArray.empty a.op.toNat)).size+(ByteArray.mk #[32]).size≤4611686018427387904)) then
     (f138 L N a.n).bind fun e=>
     bif (decide ((((ByteArray.mk #[40])++(listAt b ByteArray.empty a.op.toNat))++(ByteArray.mk #[32])).size+e.size≤4611686018427387904)) then
      f99.j1' L N self99 k c ((((ByteArray.mk #[40])++(listAt b ByteArray.empty a.op.toNat))++(ByteArray.mk #[32]))++e) a.op a.n a.parts
     else none
    else none
   else f99.j1' L N self99 k c ((ByteArray.mk #[40])++(listAt b ByteArray.empty a.op.toNat)) a.op a.n a.parts
  else none
 else none
def f99.b (L N:Nat) (self99:Tree->Option (ByteArray)) (k:ByteArray->Option R) (a:Tree):Option R:=
 f99.b' L N self99 k (fun c d e f g=>f99.l0 L N self99 (fun h=>f99.p0_e1 L N self99 k h) L c d e f g) a
def f99 (L N:Nat):Nat->Tree->Option (ByteArray)
 |0,_=>none
 |n+1,a=>f99.b L N (f99 L N n) some a
def f99.ent (L N m:Nat):=entRo [(.st 1)] (.one .str) fun d=>f99 L N m d.1
def Φ99s (L N m:Nat):Tells:=(addT (Φ138 L N) 99 (f99.ent L N m))
noncomputable def E99 (L N m:Nat):Env:={P:=Tryz.prog,ty:=tyOf,Φ:=Φ99s L N m,inl:=inlT,live:=lives,liveX:=livesX,L:=L,dp:=none,prom:=promT,heal:=healT,ren:=renT}
noncomputable def f99.c0:Code:=loopAt 1 (codeOf Tryz.f99)
def f99.X0_e1 (κ:KX R):=fun a=>κ (.exit 1) (f99.T0_e1 a) (f99.H0_e1 a)
def f99.R0 (rec:KT R):=fun a b c d e=>rec (f99.T0 a b c d e) (f99.H0 a b c d e)
theorem f99.s0_eq (L N m:Nat) (κ:KX R) (rec:KT R) (a:ByteArray) (b c d:Int) (e:LT):
  evRd (E99 L N m) (evCallI (E99 L N m) 0 1000) 1000 99 58 1 f99.c0 κ rec (f99.T0 a b c d e) (f99.H0 a b c d e)
  =f99.s0 L N (f99 L N m) (f99.X0_e1 κ) (f99.R0 rec) a b c d e:=by kernel_rfl
theorem f99.l0_eq (L N m:Nat) (κ:KX R):∀(n:Nat) (a:ByteArray) (b c d:Int) (e:LT),
  evLp (E99 L N m) (evCallI (E99 L N m) 0 1000) 1000 99 58 1 f99.c0 κ n (f99.T0 a b c d e) (f99.H0 a b c d e)
  =f99.l0 L N (f99 L N m) (f99.X0_e1 κ) n a b c d e:=by
 intro n
 induction n with
 |zero=>intros;rfl
 |succ n ih=>
  intro a b c d e
  rw [evLp_succ,f99.s0_eq]
  delta f99.R0
  simp only [ih]
  rfl
theorem f99.p0_e1_eq (L N m:Nat) (κ:AV->Option R) (a:ByteArray):
  (contAt (E99 L N m) (evCallI (E99 L N m) 0 1000) 1000 99 58 1 (codeOf Tryz.f99) (finK (E99 L N m) 1000 Tryz.f99 (finC (.one .str) κ))) (.exit 1) (f99.T0_e1 a) (f99.H0_e1 a)
  =f99.p0_e1 L N (f99 L N m) (fun a0=>κ (.tv .str a0)) a:=by kernel_rfl
theorem f99.b_eq (L N m:Nat) (κ:AV->Option R) (a:Tree):
  evBody (E99 L N m) (evCallI (E99 L N m) 0 1000) 1000 99 Tryz.f99 [(.tv (.st 1) a)] [] [] (finC (.one .str) κ)
  =f99.b L N (f99 L N m) (fun a0=>κ (.tv .str a0)) a:=by
 refine Eq.trans (b:=f99.b' L N (f99 L N m) (fun a0=>κ (.tv .str a0)) (fun c d e f g=>evLp (E99 L N m) (evCallI (E99 L N m) 0 1000) 1000 99 58 1 f99.c0 (contAt (E99 L N m) (evCallI (E99 L N m) 0 1000) 1000 99 58 1 (codeOf Tryz.f99) (finK (E99 L N m) 1000 Tryz.f99 (finC (.one .str) κ))) L (f99.T0 c d e f g) (f99.H0 c d e f g)) a) (by kernel_rfl) ?_
 unfold f99.b
 simp only [f99.l0_eq]
 delta f99.X0_e1
 simp only [f99.p0_e1_eq]
theorem f99.ok (L N m:Nat) (hΦ:TellsOk Tryz.prog (Φ99s L N m)):EntOk Tryz.prog 99 (f99.ent L N (m+1)):=entRo_ok (E:=(E99 L N m)) (dep:=1000) (f:=Tryz.f99) (sound_of hΦ) okP (callI_sound (sound_of hΦ) okP 0 1000) rfl rfl fun d _ hy=>(f99.b_eq L N m (unR (.one .str)) d.1).trans (Eq.trans (b:=f99.b L N (f99 L N m) some d.1) (by kernel_rfl) hy)
theorem Φ99s_ok (L N:Nat):∀m,TellsOk Tryz.prog (Φ99s L N m):=by
 intro m
 induction m with
 |zero=>exact (addT_ok (Φ138_ok L N) (entRo_no fun _=>rfl))
 |succ m ih=>exact (addT_ok (Φ138_ok L N) (f99.ok L N m ih))
def Φ99 (L N:Nat):Tells:=(addT (Φ138 L N) 99 (f99.ent L N N))
theorem Φ99_ok (L N:Nat):TellsOk Tryz.prog (Φ99 L N):=Φ99s_ok L N N
def f116.s2' (L N:Nat) (k2_e4:LT->Int->Int->ByteArray->Int->LT->LY->LS->LM->LLM->Option R) (rec2:LT->Int->Int->ByteArray->Int->LT->LY->LS->LM->LLM->Option R) (d:LT) (e f:Int) (c:ByteArray) (a:Int) (g:LT) (b:LY) (h:LS) (i:LM) (j:LLM):Option R:=
 bif (decide (a<(b.length:Int))) then
  bif (decide (0≤a)&&decide (a<(b.length:Int))) then
   bif (!((listAt b ByteArray.empty a.toNat).toList==c.toList)) then
    rec2 d e f c (wi (a+(1:Int))) g b h i j
   else k2_e4 d e f c a g b h i j
  else none
 else k2_e4 d e f c a g b h i j
def f116.s2 (L N:Nat) (k2_e4:LT->Int->Int->ByteArray->Int->LT->LY->LS->LM->LLM->Option R) (rec2:LT->Int->Int->ByteArray->Int->LT->LY->LS->LM->LLM->Option R) (a:LT) (b c:Int) (d:ByteArray) (e:Int) (f:LT) (g:LY) (h:LS) (i:LM) (j:LLM):Option R:=
 f116.s2' L N k2_e4 rec2 a b c d e f g h i j
def f116.l2 (L N:Nat) (k2_e4:LT->Int->Int->ByteArray->Int->LT->LY->LS->LM->LLM->Option R):Nat->LT->Int->Int->ByteArray->Int->LT->LY->LS->LM->LLM->Option R
 |0,_,_,_,_,_,_,_,_,_,_=>none
 |n+1,a,b,c,d,e,f,g,h,i,j=>f116.s2 L N k2_e4 (f116.l2 L N k2_e4 n) a b c d e f g h i j
def f116.T2 (a:LT) (b c:Int) (d:ByteArray) (e:Int) (f:LT) (g:LY) (h:LS) (i:LM) (j:LLM):T:=mkT 106 [(1,(.tv (.sl (.st 1)) a)),(4,(.ptr 1004 0)),(6,(.row 1016)),(7,(.row 1019)),(8,(.ptr 1008 0)),(9,(.tv i64 b)),(10,(.row 1032)),(11,(.row 1033)),(12,(.tv i64 c)),(13,(.tv .str d)),(14,(.tv i64 e))]
def f116.H2 (f:LT) (g h:Int) (i:ByteArray) (j:Int) (a:LT) (b:LY) (c:LS) (d:LM) (e:LLM):H:=[(1004,(.box [.nil])),(1008,(.box [(.row 1900)])),(1016,(.row 25 (.st 1) a)),(1019,(.row 9 .str b)),(1032,(.row 113 (.st 3) c)),(1033,(.row 63 (.st 0) d)),(1900,(.row 61 (.sl (.st 0)) e))]
def f116.T2_e4 (a:LT) (b c:Int) (d:ByteArray) (e:Int) (f:LT) (g:LY) (h:LS) (i:LM) (j:LLM):T:=mkT 106 [(1,(.tv (.sl (.st 1)) a)),(4,(.ptr 1004 0)),(6,(.row 1016)),(7,(.row 1019)),(8,(.ptr 1008 0)),(9,(.tv i64 b)),(10,(.row 1032)),(11,(.row 1033)),(12,(.tv i64 c)),(13,(.tv .str d)),(14,(.tv i64 e))]
def f116.H2_e4 (f:LT) (g h:Int) (i:ByteArray) (j:Int) (a:LT) (b:LY) (c:LS) (d:LM) (e:LLM):H:=[(1004,(.box [.nil])),(1008,(.box [(.row 1900)])),(1016,(.row 25 (.st 1) a)),(1019,(.row 9 .str b)),(1032,(.row 113 (.st 3) c)),(1033,(.row 63 (.st 0) d)),(1900,(.row 61 (.sl (.st 0)) e))]
def f116.j1' (L N:Nat) (k1_e2:LT->Int->LT->LY->LM->LLM->Option R) (k1_r:LT->Bool->Int->LT->LY->LM->LLM->Option R) (rec1:LT->Int->Int->LT->LY->LS->LM->LLM->Option R) (e:LT) (f a c:Int) (g:LT) (h:LY) (b:LS) (d:LM) (i:LLM):Option R:=
 bif (decide (0≤a)&&decide (a<(b.length:Int))) then
  bif (decide (d.length+([(Move.mk ((listAt b (Ty.dflt (.st 3)) a.toNat).act) c)]:LM).length≤lim)) then
   rec1 e f (wi (a+(1:Int))) g h b (d++([(Move.mk ((listAt b (Ty.dflt (.st 3)) a.toNat).act) c)]:LM)) i
  else none
 else none
def f116.j0' (L N:Nat) (k1_e2:LT->Int->LT->LY->LM->LLM->Option R) (k1_r:LT->Bool->Int->LT->LY->LM->LLM->Option R) (rec1:LT->Int->Int->LT->LY->LS->LM->LLM->Option R) (f:LT) (g a:Int) (c:ByteArray) (h:Int) (d:LT) (e:LY) (b:LS) (i:LM) (j:LLM):Option R:=
 bif (decide (0≤a)&&decide (a<(b.length:Int))) then
  bif (decide (d.length+([(Tree.mk ((listAt b (Ty.dflt (.st 3)) a.toNat).thn.op) ((listAt b (Ty.dflt (.st 3)) a.toNat).thn.n) ((listAt b (Ty.dflt (.st 3)) a.toNat).thn.parts))]:LT).length≤lim)) then
   bif (decide (e.length+([c]:LY).length≤lim)) then
    f116.j1' L N k1_e2 k1_r rec1 f g a h (d++([(Tree.mk ((listAt b (Ty.dflt (.st 3)) a.toNat).thn.op) ((listAt b (Ty.dflt (.st 3)) a.toNat).thn.n) ((listAt b (Ty.dflt (.st 3)) a.toNat).thn.parts))]:LT)) (e++([c]:LY)) b i j
   else none
  else none
 else none
def f116.p2_e4' (L N:Nat) (k1_e2:LT->Int->LT->LY->LM->LLM->Option R) (k1_r:LT->Bool->Int->LT->LY->LM->LLM->Option R) (rec1:LT->Int->Int->LT->LY->LS->LM->LLM->Option R) (d:LT) (e a:Int) (j:ByteArray) (f:Int) (g:LT) (c:LY) (b:LS) (h:LM) (i:LLM):Option R:=
 bif (f==(c.length:Int)) then
  bif (f==(60:Int)) then
   k1_r d false e g c h i
  else bif (decide (0≤a)&&decide (a<(b.length:Int))) then
   (f85 L N N (Tree.mk ((listAt b (Ty.dflt (.st 3)) a.toNat).thn.op) ((listAt b (Ty.dflt (.st 3)) a.toNat).thn.n) ((listAt b (Ty.dflt (.st 3)) a.toNat).thn.parts))).bind fun k=>
   bif (decide (k>(24:Int))) then
    k1_r d false e g c h i
   else f116.j0' L N k1_e2 k1_r rec1 d e a j f g c b h i
  else none
 else f116.j1' L N k1_e2 k1_r rec1 d e a f g c b h i
def f116.p2_e4 (L N:Nat) (k1_e2:LT->Int->LT->LY->LM->LLM->Option R) (k1_r:LT->Bool->Int->LT->LY->LM->LLM->Option R) (rec1:LT->Int->Int->LT->LY->LS->LM->LLM->Option R) (a:LT) (b c:Int) (d:ByteArray) (e:Int) (f:LT) (g:LY) (h:LS) (i:LM) (j:LLM):Option R:=
 f116.p2_e4' L N k1_e2 k1_r rec1 a b c d e f g h i j
def f116.s1' (L N:Nat) (k1_e2:LT->Int->LT->LY->LM->LLM->Option R) (k1_r:LT->Bool->Int->LT->LY->LM->LLM->Option R) (rec1:LT->Int->Int->LT->LY->LS->LM->LLM->Option R) (i:LT->Int->Int->ByteArray->Int->LT->LY->LS->LM->LLM->Option R) (c:LT) (d a:Int) (e:LT) (f:LY) (b:LS) (g:LM) (h:LLM):Option R:=
 bif (decide (a<(b.length:Int))) then
  bif (decide (0≤a)&&decide (a<(b.length:Int))) then
   (f99 L N N (Tree.mk ((listAt b (Ty.dflt (.st 3)) a.toNat).thn.op) ((listAt b (Ty.dflt (.st 3)) a.toNat).thn.n) ((listAt b (Ty.dflt (.st 3)) a.toNat).thn.parts))).bind fun j=>
   i c d a j (0:Int) e f b g h
  else none
 else k1_e2 c d e f g h
def f116.s1 (L N:Nat) (k1_e2:LT->Int->LT->LY->LM->LLM->Option R) (k1_r:LT->Bool->Int->LT->LY->LM->LLM->Option R) (rec1:LT->Int->Int->LT->LY->LS->LM->LLM->Option R) (a:LT) (b c:Int) (d:LT) (e:LY) (f:LS) (g:LM) (h:LLM):Option R:=
 f116.s1' L N k1_e2 k1_r rec1 (fun i j k l m n o p q r=>f116.l2 L N (fun s t u v w x y z A B=>f116.p2_e4 L N k1_e2 k1_r rec1 s t u v w x y z A B) L i j k l m n o p q r) a b c d e f g h
def f116.l1 (L N:Nat) (k1_e2:LT->Int->LT->LY->LM->LLM->Option R) (k1_r:LT->Bool->Int->LT->LY->LM->LLM->Option R):Nat->LT->Int->Int->LT->LY->LS->LM->LLM->Option R
 |0,_,_,_,_,_,_,_,_=>none
 |n+1,a,b,c,d,e,f,g,h=>f116.s1 L N k1_e2 k1_r (f116.l1 L N k1_e2 k1_r n) a b c d e f g h
def f116.T1 (a:LT) (b c:Int) (d:LT) (e:LY) (f:LS) (g:LM) (h:LLM):T:=mkT 106 [(1,(.tv (.sl (.st 1)) a)),(4,(.ptr 1004 0)),(6,(.row 1016)),(7,(.row 1019)),(8,(.ptr 1008 0)),(9,(.tv i64 b)),(10,(.row 1032)),(11,(.row 1033)),(12,(.tv i64 c))]
def f116.H1 (f:LT) (g h:Int) (a:LT) (b:LY) (c:LS) (d:LM) (e:LLM):H:=[(1004,(.box [.nil])),(1008,(.box [(.row 1900)])),(1016,(.row 25 (.st 1) a)),(1019,(.row 9 .str b)),(1032,(.row 113 (.st 3) c)),(1033,(.row 63 (.st 0) d)),(1900,(.row 61 (.sl (.st 0)) e))]
def f116.T1_e2 (a:LT) (b:Int) (c:LT) (d:LY) (e:LM) (f:LLM):T:=mkT 106 [(1,(.tv (.sl (.st 1)) a)),(4,(.ptr 1004 0)),(6,(.row 1016)),(7,(.row 1019)),(8,(.ptr 1008 0)),(9,(.tv i64 b)),(11,(.row 1033))]
def f116.H1_e2 (e:LT) (f:Int) (a:LT) (b:LY) (c:LM) (d:LLM):H:=[(1004,(.box [.nil])),(1008,(.box [(.row 1900)])),(1016,(.row 25 (.st 1) a)),(1019,(.row 9 .str b)),(1033,(.row 63 (.st 0) c)),(1900,(.row 61 (.sl (.st 0)) d))]
def f116.T1_r (a:LT) (b:Bool) (c:Int) (d:LT) (e:LY) (f:LM) (g:LLM):T:=mkT 106 [(1,(.tv (.sl (.st 1)) a)),(4,(.ptr 1004 0)),(5,(.tv .bool b)),(6,(.row 1016)),(7,(.row 1019)),(8,(.ptr 1008 0)),(9,(.tv i64 c)),(11,(.row 1033))]
def f116.H1_r (e:LT) (f:Bool) (g:Int) (a:LT) (b:LY) (c:LM) (d:LLM):H:=[(1004,(.box [.nil])),(1008,(.box [(.row 1900)])),(1016,(.row 25 (.st 1) a)),(1019,(.row 9 .str b)),(1033,(.row 63 (.st 0) c)),(1900,(.row 61 (.sl (.st 0)) d))]
def f116.p1_e2' (L N:Nat) (k0_e0:LLM->Option R) (k0_r:Bool->LLM->Option R) (rec0:LT->Int->LT->LY->LLM->Option R) (c:LT) (d:Int) (e:LT) (f:LY) (g:LM) (a:LLM):Option R:=
 (f78 L N g).bind fun b=>
 bif (decide (a.length+([b]:LLM).length≤lim)) then
  rec0 c (wi (d+(1:Int))) e f (a++([b]:LLM))
 else none
def f116.p1_e2 (L N:Nat) (k0_e0:LLM->Option R) (k0_r:Bool->LLM->Option R) (rec0:LT->Int->LT->LY->LLM->Option R) (a:LT) (b:Int) (c:LT) (d:LY) (e:LM) (f:LLM):Option R:=
 f116.p1_e2' L N k0_e0 k0_r rec0 a b c d e f
def f116.p1_r' (L N:Nat) (k0_e0:LLM->Option R) (k0_r:Bool->LLM->Option R) (rec0:LT->Int->LT->LY->LLM->Option R) (c:LT) (a:Bool) (d:Int) (e:LT) (f:LY) (g:LM) (b:LLM):Option R:=
 k0_r a b
def f116.p1_r (L N:Nat) (k0_e0:LLM->Option R) (k0_r:Bool->LLM->Option R) (rec0:LT->Int->LT->LY->LLM->Option R) (a:LT) (b:Bool) (c:Int) (d:LT) (e:LY) (f:LM) (g:LLM):Option R:=
 f116.p1_r' L N k0_e0 k0_r rec0 a b c d e f g
def f116.s0' (L N:Nat) (k0_e0:LLM->Option R) (k0_r:Bool->LLM->Option R) (rec0:LT->Int->LT->LY->LLM->Option R) (e:LT->Int->Int->LT->LY->LS->LM->LLM->Option R) (c:LT) (a:Int) (b:LT) (f:LY) (d:LLM):Option R:=
 bif (decide (a<(b.length:Int))) then
  bif (decide (0≤a)&&decide (a<(b.length:Int))) then
   (f98 L N N (listAt b (Ty.dflt (.st 1)) a.toNat) c).bind fun g=>
   e c a (0:Int) b f g ([]:LM) d
  else none
 else k0_e0 d
def f116.s0 (L N:Nat) (k0_e0:LLM->Option R) (k0_r:Bool->LLM->Option R) (rec0:LT->Int->LT->LY->LLM->Option R) (a:LT) (b:Int) (c:LT) (d:LY) (e:LLM):Option R:=
 f116.s0' L N k0_e0 k0_r rec0 (fun f g h i j k l m=>f116.l1 L N (fun n o p q r s=>f116.p1_e2 L N k0_e0 k0_r rec0 n o p q r s) (fun t u v w x y z=>f116.p1_r L N k0_e0 k0_r rec0 t u v w x y z) L f g h i j k l m) a b c d e
def f116.l0 (L N:Nat) (k0_e0:LLM->Option R) (k0_r:Bool->LLM->Option R):Nat->LT->Int->LT->LY->LLM->Option R
 |0,_,_,_,_,_=>none
 |n+1,a,b,c,d,e=>f116.s0 L N k0_e0 k0_r (f116.l0 L N k0_e0 k0_r n) a b c d e
def f116.T0 (a:LT) (b:Int) (c:LT) (d:LY) (e:LLM):T:=mkT 106 [(1,(.tv (.sl (.st 1)) a)),(4,(.ptr 1004 0)),(6,(.row 1016)),(7,(.row 1019)),(8,(.ptr 1008 0)),(9,(.tv i64 b))]
def f116.H0 (d:LT) (e:Int) (a:LT) (b:LY) (c:LLM):H:=[(1004,(.box [.nil])),(1008,(.box [(.row 1900)])),(1016,(.row 25 (.st 1) a)),(1019,(.row 9 .str b)),(1900,(.row 61 (.sl (.st 0)) c))]
def f116.T0_e0 (a:LLM):T:=mkT 106 [(4,(.ptr 1004 0)),(8,(.ptr 1008 0))]
def f116.H0_e0 (a:LLM):H:=[(1004,(.box [.nil])),(1008,(.box [(.row 1900)])),(1900,(.row 61 (.sl (.st 0)) a))]
def f116.T0_r (a:Bool) (b:LLM):T:=mkT 106 [(4,(.ptr 1004 0)),(5,(.tv .bool a)),(8,(.ptr 1008 0))]
def f116.H0_r (b:Bool) (a:LLM):H:=[(1004,(.box [.nil])),(1008,(.box [(.row 1900)])),(1900,(.row 61 (.sl (.st 0)) a))]
def f116.p0_e0' (L N:Nat) (k:Graph->Bool->Option R) (a:LLM):Option R:=
 k (Graph.mk a) true
def f116.p0_e0 (L N:Nat) (k:Graph->Bool->Option R) (a:LLM):Option R:=
 f116.p0_e0' L N k a
def f116.p0_r' (L N:Nat) (k:Graph->Bool->Option R) (a:Bool) (b:LLM):Option R:=
 k (Graph.mk []) a
def f116.p0_r (L N:Nat) (k:Graph->Bool->Option R) (a:Bool) (b:LLM):Option R:=
 f116.p0_r' L N k a b
def f116.b' (L N:Nat) (k:Graph->Bool->Option R) (b:LT->Int->LT->LY->LLM->Option R) (a:Tree) (c:LT):Option R:=
 (f99 L N N (Tree.mk a.op a.n a.parts)).bind fun d=>
 b c (0:Int) ([(Tree.mk a.op a.n a.parts)]:LT) ([d]:LY) ([]:LLM)
def f116.b (L N:Nat) (k:Graph->Bool->Option R) (a:Tree) (c:LT):Option R:=
 f116.b' L N k (fun d e f g h=>f116.l0 L N (fun i=>f116.p0_e0 L N k i) (fun j l=>f116.p0_r L N k j l) L d e f g h) a c
def f116 (L N:Nat) (a:Tree) (c:LT):Option (Graph×Bool):=f116.b L N (fun a0 a1=>some (a0,a1)) a c
def f116.ent (L N:Nat):=entDa [(.st 1),(.sl (.st 1))] (.many [(.st 2),.bool]) fun d=>f116 L N d.1 d.2.1
noncomputable def E116 (L N:Nat):Env:={P:=Tryz.prog,ty:=tyOf,Φ:=(Φ99 L N),inl:=inlT,live:=lives,liveX:=livesX,L:=L,dp:=none,prom:=promT,heal:=healT,ren:=renT}
noncomputable def f116.c0:Code:=loopAt 0 (codeOf Tryz.f116)
noncomputable def f116.c1:Code:=loopAt 2 f116.c0
noncomputable def f116.c2:Code:=loopAt 4 f116.c1
def f116.X2_e4 (κ:KX R):=fun a b c d e f g h i j=>κ (.exit 4) (f116.T2_e4 a b c d e f g h i j) (f116.H2_e4 a b c d e f g h i j)
def f116.R2 (rec:KT R):=fun a b c d e f g h i j=>rec (f116.T2 a b c d e f g h i j) (f116.H2 a b c d e f g h i j)
theorem f116.s2_eq (L N:Nat) (κ:KX R) (rec:KT R) (a:LT) (b c:Int) (d:ByteArray) (e:Int) (f:LT) (g:LY) (h:LS) (i:LM) (j:LLM):
  evRd (E116 L N) (evCallI (E116 L N) 0 1000) 1000 116 106 4 f116.c2 κ rec (f116.T2 a b c d e f g h i j) (f116.H2 a b c d e f g h i j)
  =f116.s2 L N (f116.X2_e4 κ) (f116.R2 rec) a b c d e f g h i j:=by kernel_rfl
theorem f116.l2_eq (L N:Nat) (κ:KX R):∀(n:Nat) (a:LT) (b c:Int) (d:ByteArray) (e:Int) (f:LT) (g:LY) (h:LS) (i:LM) (j:LLM),
  evLp (E116 L N) (evCallI (E116 L N) 0 1000) 1000 116 106 4 f116.c2 κ n (f116.T2 a b c d e f g h i j) (f116.H2 a b c d e f g h i j)
  =f116.l2 L N (f116.X2_e4 κ) n a b c d e f g h i j:=by
 intro n
 induction n with
 |zero=>intros;rfl
 |succ n ih=>
  intro a b c d e f g h i j
  rw [evLp_succ,f116.s2_eq]
  delta f116.R2
  simp only [ih]
  rfl
def f116.X1_e2 (κ:KX R):=fun a b c d e f=>κ (.exit 2) (f116.T1_e2 a b c d e f) (f116.H1_e2 a b c d e f)
def f116.X1_r (κ:KX R):=fun a b c d e f g=>κ .ret (f116.T1_r a b c d e f g) (f116.H1_r a b c d e f g)
def f116.R1 (rec:KT R):=fun a b c d e f g h=>rec (f116.T1 a b c d e f g h) (f116.H1 a b c d e f g h)
theorem f116.p2_e4_eq (L N:Nat) (κ:KX R) (rec:KT R) (a:LT) (b c:Int) (d:ByteArray) (e:Int) (f:LT) (g:LY) (h:LS) (i:LM) (j:LLM):
  (contAt (E116 L N) (evCallI (E116 L N) 0 1000) 1000 116 106 4 f116.c1 (rdK (E116 L N) 1000 116 106 2 κ rec)) (.exit 4) (f116.T2_e4 a b c d e f g h i j) (f116.H2_e4 a b c d e f g h i j)
  =f116.p2_e4 L N (f116.X1_e2 κ) (f116.X1_r κ) (f116.R1 rec) a b c d e f g h i j:=by kernel_rfl
theorem f116.s1_eq (L N:Nat) (κ:KX R) (rec:KT R) (a:LT) (c d:Int) (e:LT) (f:LY) (g:LS) (h:LM) (i:LLM):
  evRd (E116 L N) (evCallI (E116 L N) 0 1000) 1000 116 106 2 f116.c1 κ rec (f116.T1 a c d e f g h i) (f116.H1 a c d e f g h i)
  =f116.s1 L N (f116.X1_e2 κ) (f116.X1_r κ) (f116.R1 rec) a c d e f g h i:=by
 refine Eq.trans (b:=f116.s1' L N (f116.X1_e2 κ) (f116.X1_r κ) (f116.R1 rec) (fun j k l m n o p q r s=>evLp (E116 L N) (evCallI (E116 L N) 0 1000) 1000 116 106 4 f116.c2 (contAt (E116 L N) (evCallI (E116 L N) 0 1000) 1000 116 106 4 f116.c1 (rdK (E116 L N) 1000 116 106 2 κ rec)) L (f116.T2 j k l m n o p q r s) (f116.H2 j k l m n o p q r s)) a c d e f g h i) (by kernel_rfl) ?_
 unfold f116.s1
 simp only [f116.l2_eq]
 delta f116.X2_e4
 simp only [f116.p2_e4_eq]
end Go.Proofs.YthidlhjjnaldhaaGreatDoor.Ev
