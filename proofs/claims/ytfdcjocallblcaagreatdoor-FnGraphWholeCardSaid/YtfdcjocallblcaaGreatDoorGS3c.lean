/- The seat's functions as plain functions, continued: made by program (wip/gen/gen.py). -/
import Derived.Test.YtfdcjocallblcaaGreatDoorGS3b
namespace Go.Proofs.YtfdcjocallblcaaGreatDoor.Ev
open Go
set_option linter.unusedVariables false
set_option maxRecDepth 20000
def f47_1.b {R:Type} (L N:Nat) (k:Bool→Bool→Option R) (c0:Bool) (x0:Graph) (x1:Graph) (x2:Int):Option R:=
 f47_1.b' L N k (fun s4 s5 s6 s7 s8 s9 s10=>f47_1.l0 L N (fun z11=>f47_1.p0_e0 L N k z11) (fun z12 z13=>f47_1.p0_r L N k z12 z13) (fun z37 z38 z39=>f47_1.p0_r1 L N k z37 z38 z39) (fun z139 z140=>f47_1.p0_r2 L N k z139 z140) L s4 s5 s6 s7 s8 s9 s10) c0 x0 x1 x2
def f47_1 (L N:Nat) (c0:Bool) (x0:Graph) (x1:Graph) (x2:Int):Option (Bool×Bool):=f47_1.b L N (fun a0 a1=>some (a0,a1)) c0 x0 x1 x2
def f47_1.ent (L N:Nat) (args:List AV) (vw:View) (_:Nat):Option Ans:=match mutD2 [.bool] [(.sh (.dat (.st 2))),(.sh (.dat (.st 2))),(.sh (.dat i64)),(.fn 48 [(.mut 1),(.mut 0)])] vw args with
 |some (o,o2,d0,d,u)=>some ⟨Bool×Bool,f47_1 L N d0.1 d.1 d.2.1 d.2.2.1,fun y=>((.tv .bool y.1),u++[(o2,none),(o,some (.box [(.tv .bool y.2)]))],[])⟩
 |none=>none
noncomputable def E47_1 (L N:Nat):Env:={P:=Tryz.prog,ty:=tyOf,Φ:=(Φ18 L N),inl:=inlT,live:=lives,liveX:=livesX,L:=L,dp:=none,prom:=promT,heal:=healT,ren:=renT,fresh:=fun s=>Nat.beq s 1081}
noncomputable def f47_1.c0:Code:=loopAt 0 (codeOf Tryz.f47)
noncomputable def f47_1.c1:Code:=loopAt 2 f47_1.c0
def f47_1.X1_e2 {R:Type} (κ:KX R):=fun z54 z55 z56 z57 z58 z59 z60=>κ (.exit 2) (f47_1.T1_e2 z54 z55 z56 z57 z58 z59 z60) (f47_1.H1_e2 z54 z55 z56 z57 z58 z59 z60)
def f47_1.X1_r {R:Type} (κ:KX R):=fun z93 z94 z95 z96 z97 z98 z99 z100 z101=>κ .ret (f47_1.T1_r z93 z94 z95 z96 z97 z98 z99 z100 z101) (f47_1.H1_r z93 z94 z95 z96 z97 z98 z99 z100 z101)
def f47_1.X1_r1 {R:Type} (κ:KX R):=fun z102 z103 z104 z105 z106 z107 z108 z109 z110=>κ .ret (f47_1.T1_r1 z102 z103 z104 z105 z106 z107 z108 z109 z110) (f47_1.H1_r1 z102 z103 z104 z105 z106 z107 z108 z109 z110)
def f47_1.R1 {R:Type} (rec:KT R):=fun s41 s42 s43 s44 s45 s46 s47 s48 s49 s50 s51 s52 s53=>rec (f47_1.T1 s41 s42 s43 s44 s45 s46 s47 s48 s49 s50 s51 s52 s53) (f47_1.H1 s41 s42 s43 s44 s45 s46 s47 s48 s49 s50 s51 s52 s53)
theorem f47_1.s1_eq {R:Type} (L N:Nat) (κ:KX R) (rec:KT R) (s41:Int) (s42:Int) (s43:LI) (s44:Int) (s45:Int) (s46:Bool) (s47:LLM) (s48:LLM) (s49:LI) (s50:LI) (s51:LI) (s52:(List Duo)) (s53:(List (ByteArray×Bool))):
  evRd (E47_1 L N) (evCallI (E47_1 L N) 1 2000) 1000 47 107 2 f47_1.c1 κ rec (f47_1.T1 s41 s42 s43 s44 s45 s46 s47 s48 s49 s50 s51 s52 s53) (f47_1.H1 s41 s42 s43 s44 s45 s46 s47 s48 s49 s50 s51 s52 s53)
  =f47_1.s1 L N (f47_1.X1_e2 κ) (f47_1.X1_r κ) (f47_1.X1_r1 κ) (f47_1.R1 rec) s41 s42 s43 s44 s45 s46 s47 s48 s49 s50 s51 s52 s53:=by kernel_rfl
theorem f47_1.l1_eq {R:Type} (L N:Nat) (κ:KX R):∀(n:Nat) (s41:Int) (s42:Int) (s43:LI) (s44:Int) (s45:Int) (s46:Bool) (s47:LLM) (s48:LLM) (s49:LI) (s50:LI) (s51:LI) (s52:(List Duo)) (s53:(List (ByteArray×Bool))),
  evLp (E47_1 L N) (evCallI (E47_1 L N) 1 2000) 1000 47 107 2 f47_1.c1 κ n (f47_1.T1 s41 s42 s43 s44 s45 s46 s47 s48 s49 s50 s51 s52 s53) (f47_1.H1 s41 s42 s43 s44 s45 s46 s47 s48 s49 s50 s51 s52 s53)
  =f47_1.l1 L N (f47_1.X1_e2 κ) (f47_1.X1_r κ) (f47_1.X1_r1 κ) n s41 s42 s43 s44 s45 s46 s47 s48 s49 s50 s51 s52 s53:=by
 intro n
 induction n with
 |zero=>intros;rfl
 |succ n ih=>
  intro s41 s42 s43 s44 s45 s46 s47 s48 s49 s50 s51 s52 s53
  rw [evLp_succ,f47_1.s1_eq]
  delta f47_1.R1
  simp only [ih]
  rfl
def f47_1.X0_e0 {R:Type} (κ:KX R):=fun z11=>κ (.exit 0) (f47_1.T0_e0 z11) (f47_1.H0_e0 z11)
def f47_1.X0_r {R:Type} (κ:KX R):=fun z12 z13=>κ .ret (f47_1.T0_r z12 z13) (f47_1.H0_r z12 z13)
def f47_1.X0_r1 {R:Type} (κ:KX R):=fun z37 z38 z39=>κ .ret (f47_1.T0_r1 z37 z38 z39) (f47_1.H0_r1 z37 z38 z39)
def f47_1.X0_r2 {R:Type} (κ:KX R):=fun z139 z140=>κ .ret (f47_1.T0_r2 z139 z140) (f47_1.H0_r2 z139 z140)
def f47_1.R0 {R:Type} (rec:KT R):=fun s4 s5 s6 s7 s8 s9 s10=>rec (f47_1.T0 s4 s5 s6 s7 s8 s9 s10) (f47_1.H0 s4 s5 s6 s7 s8 s9 s10)
theorem f47_1.p1_e2_eq {R:Type} (L N:Nat) (κ:KX R) (rec:KT R) (z54:Int) (z55:Int) (z56:Bool) (z57:LLM) (z58:LLM) (z59:(List Duo)) (z60:(List (ByteArray×Bool))):
  (contAt (E47_1 L N) (evCallI (E47_1 L N) 1 2000) 1000 47 107 2 f47_1.c0 (rdK (E47_1 L N) 1000 47 107 0 κ rec)) (.exit 2) (f47_1.T1_e2 z54 z55 z56 z57 z58 z59 z60) (f47_1.H1_e2 z54 z55 z56 z57 z58 z59 z60)
  =f47_1.p1_e2 L N (f47_1.X0_e0 κ) (f47_1.X0_r κ) (f47_1.X0_r1 κ) (f47_1.X0_r2 κ) (f47_1.R0 rec) z54 z55 z56 z57 z58 z59 z60:=by kernel_rfl
theorem f47_1.p1_r_eq {R:Type} (L N:Nat) (κ:KX R) (rec:KT R) (z93:Int) (z94:Bool) (z95:Int) (z96:Bool) (z97:LLM) (z98:LLM) (z99:(List Duo)) (z100:(List (ByteArray×Bool))) (z101:LI):
  (contAt (E47_1 L N) (evCallI (E47_1 L N) 1 2000) 1000 47 107 2 f47_1.c0 (rdK (E47_1 L N) 1000 47 107 0 κ rec)) .ret (f47_1.T1_r z93 z94 z95 z96 z97 z98 z99 z100 z101) (f47_1.H1_r z93 z94 z95 z96 z97 z98 z99 z100 z101)
  =f47_1.p1_r L N (f47_1.X0_e0 κ) (f47_1.X0_r κ) (f47_1.X0_r1 κ) (f47_1.X0_r2 κ) (f47_1.R0 rec) z93 z94 z95 z96 z97 z98 z99 z100 z101:=by kernel_rfl
theorem f47_1.p1_r1_eq {R:Type} (L N:Nat) (κ:KX R) (rec:KT R) (z102:Int) (z103:Bool) (z104:Int) (z105:Bool) (z106:LLM) (z107:LLM) (z108:(List Duo)) (z109:(List (ByteArray×Bool))) (z110:LI):
  (contAt (E47_1 L N) (evCallI (E47_1 L N) 1 2000) 1000 47 107 2 f47_1.c0 (rdK (E47_1 L N) 1000 47 107 0 κ rec)) .ret (f47_1.T1_r1 z102 z103 z104 z105 z106 z107 z108 z109 z110) (f47_1.H1_r1 z102 z103 z104 z105 z106 z107 z108 z109 z110)
  =f47_1.p1_r1 L N (f47_1.X0_e0 κ) (f47_1.X0_r κ) (f47_1.X0_r1 κ) (f47_1.X0_r2 κ) (f47_1.R0 rec) z102 z103 z104 z105 z106 z107 z108 z109 z110:=by kernel_rfl
theorem f47_1.s0_eq {R:Type} (L N:Nat) (κ:KX R) (rec:KT R) (s4:Int) (s5:Int) (s6:Bool) (s7:LLM) (s8:LLM) (s9:(List Duo)) (s10:(List (ByteArray×Bool))):
  evRd (E47_1 L N) (evCallI (E47_1 L N) 1 2000) 1000 47 107 0 f47_1.c0 κ rec (f47_1.T0 s4 s5 s6 s7 s8 s9 s10) (f47_1.H0 s4 s5 s6 s7 s8 s9 s10)
  =f47_1.s0 L N (f47_1.X0_e0 κ) (f47_1.X0_r κ) (f47_1.X0_r1 κ) (f47_1.X0_r2 κ) (f47_1.R0 rec) s4 s5 s6 s7 s8 s9 s10:=by
 refine Eq.trans (b:=f47_1.s0' L N (f47_1.X0_e0 κ) (f47_1.X0_r κ) (f47_1.X0_r1 κ) (f47_1.X0_r2 κ) (f47_1.R0 rec) (fun s41 s42 s43 s44 s45 s46 s47 s48 s49 s50 s51 s52 s53=>evLp (E47_1 L N) (evCallI (E47_1 L N) 1 2000) 1000 47 107 2 f47_1.c1 (contAt (E47_1 L N) (evCallI (E47_1 L N) 1 2000) 1000 47 107 2 f47_1.c0 (rdK (E47_1 L N) 1000 47 107 0 κ rec)) L (f47_1.T1 s41 s42 s43 s44 s45 s46 s47 s48 s49 s50 s51 s52 s53) (f47_1.H1 s41 s42 s43 s44 s45 s46 s47 s48 s49 s50 s51 s52 s53)) s4 s5 s6 s7 s8 s9 s10) (by kernel_rfl) ?_
 unfold f47_1.s0
 simp only [f47_1.l1_eq]
 delta f47_1.X1_e2 f47_1.X1_r f47_1.X1_r1
 simp only [f47_1.p1_e2_eq,f47_1.p1_r_eq,f47_1.p1_r1_eq]
theorem f47_1.l0_eq {R:Type} (L N:Nat) (κ:KX R):∀(n:Nat) (s4:Int) (s5:Int) (s6:Bool) (s7:LLM) (s8:LLM) (s9:(List Duo)) (s10:(List (ByteArray×Bool))),
  evLp (E47_1 L N) (evCallI (E47_1 L N) 1 2000) 1000 47 107 0 f47_1.c0 κ n (f47_1.T0 s4 s5 s6 s7 s8 s9 s10) (f47_1.H0 s4 s5 s6 s7 s8 s9 s10)
  =f47_1.l0 L N (f47_1.X0_e0 κ) (f47_1.X0_r κ) (f47_1.X0_r1 κ) (f47_1.X0_r2 κ) n s4 s5 s6 s7 s8 s9 s10:=by
 intro n
 induction n with
 |zero=>intros;rfl
 |succ n ih=>
  intro s4 s5 s6 s7 s8 s9 s10
  rw [evLp_succ,f47_1.s0_eq]
  delta f47_1.R0
  simp only [ih]
  rfl
theorem f47_1.p0_e0_eq {R:Type} (L N:Nat) (κ:AV→Dens [.bool]→Option R) (z11:Bool):
  (contAt (E47_1 L N) (evCallI (E47_1 L N) 1 2000) 1000 47 107 0 (codeOf Tryz.f47) (finK (E47_1 L N) 1000 Tryz.f47 (finM (.one .bool) [.bool] κ))) (.exit 0) (f47_1.T0_e0 z11) (f47_1.H0_e0 z11)
  =f47_1.p0_e0 L N (fun a0 a1=>κ (.tv .bool a0) (a1,())) z11:=by kernel_rfl
theorem f47_1.p0_r_eq {R:Type} (L N:Nat) (κ:AV→Dens [.bool]→Option R) (z12:Bool) (z13:Bool):
  (contAt (E47_1 L N) (evCallI (E47_1 L N) 1 2000) 1000 47 107 0 (codeOf Tryz.f47) (finK (E47_1 L N) 1000 Tryz.f47 (finM (.one .bool) [.bool] κ))) .ret (f47_1.T0_r z12 z13) (f47_1.H0_r z12 z13)
  =f47_1.p0_r L N (fun a0 a1=>κ (.tv .bool a0) (a1,())) z12 z13:=by kernel_rfl
theorem f47_1.p0_r1_eq {R:Type} (L N:Nat) (κ:AV→Dens [.bool]→Option R) (z37:Bool) (z38:Bool) (z39:LI):
  (contAt (E47_1 L N) (evCallI (E47_1 L N) 1 2000) 1000 47 107 0 (codeOf Tryz.f47) (finK (E47_1 L N) 1000 Tryz.f47 (finM (.one .bool) [.bool] κ))) .ret (f47_1.T0_r1 z37 z38 z39) (f47_1.H0_r1 z37 z38 z39)
  =f47_1.p0_r1 L N (fun a0 a1=>κ (.tv .bool a0) (a1,())) z37 z38 z39:=by kernel_rfl
theorem f47_1.p0_r2_eq {R:Type} (L N:Nat) (κ:AV→Dens [.bool]→Option R) (z139:Bool) (z140:Bool):
  (contAt (E47_1 L N) (evCallI (E47_1 L N) 1 2000) 1000 47 107 0 (codeOf Tryz.f47) (finK (E47_1 L N) 1000 Tryz.f47 (finM (.one .bool) [.bool] κ))) .ret (f47_1.T0_r2 z139 z140) (f47_1.H0_r2 z139 z140)
  =f47_1.p0_r2 L N (fun a0 a1=>κ (.tv .bool a0) (a1,())) z139 z140:=by kernel_rfl
theorem f47_1.b_eq {R:Type} (L N:Nat) (κ:AV→Dens [.bool]→Option R) (c0:Bool) (x0:Graph) (x1:Graph) (x2:Int):
  evBody (E47_1 L N) (evCallI (E47_1 L N) 1 2000) 1000 47 Tryz.f47 [(.tv (.st 2) x0),(.tv (.st 2) x1),(.tv i64 x2),(.fn 48 [(.ptr 1 0),(.ptr 0 0)])] [.ptr 0 0] [(0,(.box [(.tv .bool c0)])),(1,(.box [.any]))] (finM (.one .bool) [.bool] κ)
  =f47_1.b L N (fun a0 a1=>κ (.tv .bool a0) (a1,())) c0 x0 x1 x2:=by
 refine Eq.trans (b:=f47_1.b' L N (fun a0 a1=>κ (.tv .bool a0) (a1,())) (fun s4 s5 s6 s7 s8 s9 s10=>evLp (E47_1 L N) (evCallI (E47_1 L N) 1 2000) 1000 47 107 0 f47_1.c0 (contAt (E47_1 L N) (evCallI (E47_1 L N) 1 2000) 1000 47 107 0 (codeOf Tryz.f47) (finK (E47_1 L N) 1000 Tryz.f47 (finM (.one .bool) [.bool] κ))) L (f47_1.T0 s4 s5 s6 s7 s8 s9 s10) (f47_1.H0 s4 s5 s6 s7 s8 s9 s10)) c0 x0 x1 x2) (by kernel_rfl) ?_
 unfold f47_1.b
 simp only [f47_1.l0_eq]
 delta f47_1.X0_e0 f47_1.X0_r f47_1.X0_r1 f47_1.X0_r2
 simp only [f47_1.p0_e0_eq,f47_1.p0_r_eq,f47_1.p0_r1_eq,f47_1.p0_r2_eq]
theorem f47_1.ok (L N:Nat) (hΦ:TellsOk Tryz.prog ((Φ18 L N))):EntOkO Tryz.prog 47 (f47_1.ent L N):=by
 intro args vw site h a ha
 unfold f47_1.ent at ha
 split at ha
 ·rename_i o o2 d0 d u hd
  obtain rfl:=Option.some.inj ha
  intro y hy hs
  obtain ⟨cs,c2,hne,ho,ho2,hd0,hr⟩:=mutD2_some hd
  refine call_mut2 (y:=y) (dep:=1000) (v':=(.tv .bool y.1)) (d1:=(y.2,())) (E:=(E47_1 L N)) (ts:=[.bool]) (rs:=(.one .bool)) (κ:=(fun v d=>(unR (.one .bool) v).bind fun x=>some (x,d.1))) (sound_of hΦ) okP (callI_sound (sound_of hΦ) okP 1 2000) (f:=Tryz.f47) rfl hs hne ho ho2 hd0 hr ?_ (fun _ _ h=>by obtain ⟨x,h1,h2⟩:=unR_bind h;obtain rfl:=Option.some.inj h2;exact ⟨h1,rfl⟩) site
  exact (f47_1.b_eq L N (fun v d=>(unR (.one .bool) v).bind fun x=>some (x,d.1)) d0.1 d.1 d.2.1 d.2.2.1).trans (Eq.trans (b:=f47_1.b L N (fun a0 a1=>some (a0,a1)) d0.1 d.1 d.2.1 d.2.2.1) (by kernel_rfl) hy)
 ·cases ha
def Φ47_1 (L N:Nat):Tells:=(addO (Φ18 L N) 47 (f47_1.ent L N))
theorem Φ47_1_ok (L N:Nat):TellsOk Tryz.prog (Φ47_1 L N):=addO_ok (Φ18_ok L N) (f47_1.ok L N (Φ18_ok L N))
def f19.j0' {R:Type} (L N:Nat) (k:LI→Bool→Option R) (v5:LLM) (v6:LLM):Option R:=
 (f47_1 L N false (Graph.mk v5) (Graph.mk v6) (20:Int)).bind fun y7=>
 bif (!y7.1) then
  k [] false
 else bif (!y7.2) then
  k [] false
 else none
def f19.b' {R:Type} (L N:Nat) (k:LI→Bool→Option R) (x0:Graph) (x1:Graph):Option R:=
 (f6 L N (Graph.mk x0.moves)).bind fun y0=>
 bif (!y0) then
  k [] false
 else (f6 L N (Graph.mk x1.moves)).bind fun y1=>
 bif (!y1) then
  k [] false
 else f19.j0' L N k x0.moves x1.moves
def f19.b {R:Type} (L N:Nat) (k:LI→Bool→Option R) (x0:Graph) (x1:Graph):Option R:=
 f19.b' L N k x0 x1
def f19 (L N:Nat) (x0:Graph) (x1:Graph):Option (LI×Bool):=f19.b L N (fun a0 a1=>some (a0,a1)) x0 x1
def f19.ent (L N:Nat):=entDa [(.st 2),(.st 2)] (.many [(.sl i64),.bool]) fun d=>f19 L N d.1 d.2.1
noncomputable def E19 (L N:Nat):Env:={P:=Tryz.prog,ty:=tyOf,Φ:=(Φ47_1 L N),inl:=inlT,live:=lives,liveX:=livesX,L:=L,dp:=none,prom:=promT,heal:=healT,ren:=renT}
theorem f19.b_eq {R:Type} (L N:Nat) (κ:AV→Option R) (x0:Graph) (x1:Graph):
  evBody (E19 L N) (evCallI (E19 L N) 1 2000) 1000 19 Tryz.f19 [(.tv (.st 2) x0),(.tv (.st 2) x1)] [] [] (finC (.many [(.sl i64),.bool]) κ)
  =f19.b L N (fun a0 a1=>κ (.tup [(.tv (.sl i64) a0),(.tv .bool a1)])) x0 x1:=by kernel_rfl
theorem f19.ok (L N:Nat) (hΦ:TellsOk Tryz.prog ((Φ47_1 L N))):EntOk Tryz.prog 19 (f19.ent L N):=entDa_ok (E:=(E19 L N)) (dep:=1000) (f:=Tryz.f19) (sound_of hΦ) okP (callI_sound (sound_of hΦ) okP 1 2000) rfl fun d _ hy=>(f19.b_eq L N (unR (.many [(.sl i64),.bool])) d.1 d.2.1).trans (Eq.trans (b:=f19.b L N (fun a0 a1=>some (a0,a1)) d.1 d.2.1) (by kernel_rfl) hy)
def Φ19 (L N:Nat):Tells:=(addT (Φ47_1 L N) 19 (f19.ent L N))
theorem Φ19_ok (L N:Nat):TellsOk Tryz.prog (Φ19 L N):=addT_ok (Φ47_1_ok L N) (f19.ok L N (Φ47_1_ok L N))
def f3.s0' {R:Type} (L N:Nat) (k0_e0:Int→Int→Bool→Int→LLM→Int→Int→LT→LI→LI→LI→Option R) (rec0:Int→Int→Bool→Int→Int→LLM→Int→Int→LT→LI→LI→LI→Option R) (s22:Int) (s23:Int) (s24:Bool) (s25:Int) (s26:Int) (s27:LLM) (s28:Int) (s29:Int) (s30:LT) (s31:LI) (s32:LI) (s33:LI):Option R:=
 bif (decide (s26<(s31.length:Int))) then
  bif (decide (0≤s26)&&decide (s26<(s31.length:Int))) then
   bif ((listAt s31 (0:Int) s26.toNat)==s26) then
    rec0 s22 s23 s24 (wi (s25+(1:Int))) (wi (s26+(1:Int))) s27 s28 s29 s30 s31 s32 s33
   else rec0 s22 s23 s24 s25 (wi (s26+(1:Int))) s27 s28 s29 s30 s31 s32 s33
  else none
 else k0_e0 s22 s23 s24 s25 s27 s28 s29 s30 s31 s32 s33
def f3.s0 {R:Type} (L N:Nat) (k0_e0:Int→Int→Bool→Int→LLM→Int→Int→LT→LI→LI→LI→Option R) (rec0:Int→Int→Bool→Int→Int→LLM→Int→Int→LT→LI→LI→LI→Option R) (s22:Int) (s23:Int) (s24:Bool) (s25:Int) (s26:Int) (s27:LLM) (s28:Int) (s29:Int) (s30:LT) (s31:LI) (s32:LI) (s33:LI):Option R:=
 f3.s0' L N k0_e0 rec0 s22 s23 s24 s25 s26 s27 s28 s29 s30 s31 s32 s33
def f3.l0 {R:Type} (L N:Nat) (k0_e0:Int→Int→Bool→Int→LLM→Int→Int→LT→LI→LI→LI→Option R):Nat→Int→Int→Bool→Int→Int→LLM→Int→Int→LT→LI→LI→LI→Option R
 |0,_,_,_,_,_,_,_,_,_,_,_,_=>none
 |n+1,s22,s23,s24,s25,s26,s27,s28,s29,s30,s31,s32,s33=>f3.s0 L N k0_e0 (f3.l0 L N k0_e0 n) s22 s23 s24 s25 s26 s27 s28 s29 s30 s31 s32 s33
def f3.T0 (s22:Int) (s23:Int) (s24:Bool) (s25:Int) (s26:Int) (s27:LLM) (s28:Int) (s29:Int) (s30:LT) (s31:LI) (s32:LI) (s33:LI):T:=mkT 163 [(2,(.tv i64 s22)),(3,(.tv i64 s23)),(9,(.ptr 1009 0)),(10,(.row 1034)),(12,(.ptr 1012 0)),(13,(.tv .bool s24)),(14,(.row 1069)),(15,(.row 1071)),(16,(.tv i64 s25)),(17,(.tv i64 s26))]
def f3.H0 (s22:Int) (s23:Int) (s24:Bool) (s25:Int) (s26:Int) (s27:LLM) (s28:Int) (s29:Int) (s30:LT) (s31:LI) (s32:LI) (s33:LI):H:=[(1009,(.box [(.tv (.sl (.sl (.st 0))) s27)])),(1012,(.box [(.tv i64 s28),(.tv i64 s29),(.tv (.sl (.st 1)) s30)])),(1034,(.row 3 i64 s31)),(1069,(.row 3 i64 s32)),(1071,(.row 3 i64 s33))]
def f3.T0_e0 (z34:Int) (z35:Int) (z36:Bool) (z37:Int) (z38:LLM) (z39:Int) (z40:Int) (z41:LT) (z42:LI) (z43:LI) (z44:LI):T:=mkT 163 [(2,(.tv i64 z34)),(3,(.tv i64 z35)),(9,(.ptr 1009 0)),(10,(.row 1034)),(12,(.ptr 1012 0)),(13,(.tv .bool z36)),(14,(.row 1069)),(15,(.row 1071)),(16,(.tv i64 z37))]
def f3.H0_e0 (z34:Int) (z35:Int) (z36:Bool) (z37:Int) (z38:LLM) (z39:Int) (z40:Int) (z41:LT) (z42:LI) (z43:LI) (z44:LI):H:=[(1009,(.box [(.tv (.sl (.sl (.st 0))) z38)])),(1012,(.box [(.tv i64 z39),(.tv i64 z40),(.tv (.sl (.st 1)) z41)])),(1034,(.row 3 i64 z42)),(1069,(.row 3 i64 z43)),(1071,(.row 3 i64 z44))]
def f3.j0' {R:Type} (L N:Nat) (k:Bool→Option R) (v82:LLM):Option R:=
 (f18 L N (Graph.mk v82)).bind fun y83=>
 (f19 L N (Graph.mk v82) (Graph.mk y83.1.moves)).bind fun y84=>
 (f19 L N (Graph.mk y83.1.moves) (Graph.mk v82)).bind fun y85=>
 bif (!y83.2) then
  k true
 else bif (!y84.2) then
  k (!y85.2)
 else k false
def f3.j1' {R:Type} (L N:Nat) (k:Bool→Option R) (v69:Int) (v70:Int) (v71:Bool) (v72:LLM) (v73:Int) (v74:Int) (v75:LT) (v76:LI):Option R:=
 bif v71 then
  (f16 L N (Graph.mk v72) (Tree.mk v73 v74 v75)).bind fun y77=>
  bif (decide (0≤v69)&&decide (v69<(v76.length:Int))) then
   bif (decide (0≤v70)&&decide (v70<(v76.length:Int))) then
    bif ((listAt v76 (0:Int) v69.toNat)==(listAt v76 (0:Int) v70.toNat)) then
     k false
    else (f17 L N y77 v69).bind fun y78=>
    bif (!y78) then
     k false
    else (f17 L N y77 v70).bind fun y79=>
    bif y79 then
     k false
    else f3.j0' L N k v72
   else none
  else none
 else f3.j0' L N k v72
def f3.p0_e0' {R:Type} (L N:Nat) (k:Bool→Option R) (z34:Int) (z35:Int) (z36:Bool) (z37:Int) (z38:LLM) (z39:Int) (z40:Int) (z41:LT) (z42:LI) (z43:LI) (z44:LI):Option R:=
 (f14 L N (Graph.mk z38)).bind fun y57=>
 (f15 L N z42 z43).bind fun y58=>
 bif (!y58) then
  k false
 else (f15 L N z43 z44).bind fun y59=>
 bif (!y59) then
  k false
 else bif (!y57.2) then
  k false
 else bif ((y57.1.moves.length:Int) !=z37) then
  k false
 else f3.j1' L N k z34 z35 z36 z38 z39 z40 z41 z42
def f3.p0_e0 {R:Type} (L N:Nat) (k:Bool→Option R) (z34:Int) (z35:Int) (z36:Bool) (z37:Int) (z38:LLM) (z39:Int) (z40:Int) (z41:LT) (z42:LI) (z43:LI) (z44:LI):Option R:=
 f3.p0_e0' L N k z34 z35 z36 z37 z38 z39 z40 z41 z42 z43 z44
def f3.j2' {R:Type} (L N:Nat) (k:Bool→Option R) (w0:Int→Int→Bool→Int→Int→LLM→Int→Int→LT→LI→LI→LI→Option R) (v13:Int) (v14:Int) (v15:Bool) (v16:LLM) (v17:LI):Option R:=
 (f11 L N (Graph.mk v16) v13 v14).bind fun y18=>
 bif (!v15) then
  bif (!y18.2) then
   k ((v17.length:Int)==(0:Int))
  else k false
 else (f12 L N (Graph.mk v16)).bind fun y20=>
 (f13 L N (Graph.mk v16)).bind fun y21=>
 w0 v13 v14 y18.2 (0:Int) (0:Int) v16 y18.1.op y18.1.n y18.1.parts v17 y20 y21
def f3.b' {R:Type} (L N:Nat) (k:Bool→Option R) (w0:Int→Int→Bool→Int→Int→LLM→Int→Int→LT→LI→LI→LI→Option R) (x0:Int) (x1:LI) (x2:Int) (x3:Int):Option R:=
 bif (decide ((x1.length:Int)>(2147483647:Int))) then
  k true
 else (f4 L N x0 x1).bind fun y0=>
 (f5 L N (Graph.mk y0.moves)).bind fun y1=>
 (f6 L N (Graph.mk y0.moves)).bind fun y2=>
 (f7 L N (Graph.mk y0.moves)).bind fun y3=>
 bif (!(y2==y3)) then
  k false
 else (f9 L N (Graph.mk y0.moves)).bind fun y4=>
 (f8 L N y1 y4).bind fun y5=>
 bif (!y5) then
  k false
 else (f10 L N (0:Int)).bind fun y6=>
 bif (!(y6.toList==(ByteArray.mk #[116,97,117]).toList)) then
  k false
 else f3.j2' L N k w0 x2 x3 y2 y0.moves y1
def f3.b {R:Type} (L N:Nat) (k:Bool→Option R) (x0:Int) (x1:LI) (x2:Int) (x3:Int):Option R:=
 f3.b' L N k (fun s22 s23 s24 s25 s26 s27 s28 s29 s30 s31 s32 s33=>f3.l0 L N (fun z34 z35 z36 z37 z38 z39 z40 z41 z42 z43 z44=>f3.p0_e0 L N k z34 z35 z36 z37 z38 z39 z40 z41 z42 z43 z44) L s22 s23 s24 s25 s26 s27 s28 s29 s30 s31 s32 s33) x0 x1 x2 x3
def f3 (L N:Nat) (x0:Int) (x1:LI) (x2:Int) (x3:Int):Option (Bool):=f3.b L N some x0 x1 x2 x3
def f3.ent (L N:Nat):=entRo [i64,(.sl i64),i64,i64] (.one .bool) fun d=>f3 L N d.1 d.2.1 d.2.2.1 d.2.2.2.1
noncomputable def E3 (L N:Nat):Env:={P:=Tryz.prog,ty:=tyOf,Φ:=(Φ19 L N),inl:=inlT,live:=lives,liveX:=livesX,L:=L,dp:=none,prom:=promT,heal:=healT,ren:=renT}
noncomputable def f3.c0:Code:=loopAt 0 (codeOf Tryz.f3)
def f3.X0_e0 {R:Type} (κ:KX R):=fun z34 z35 z36 z37 z38 z39 z40 z41 z42 z43 z44=>κ (.exit 0) (f3.T0_e0 z34 z35 z36 z37 z38 z39 z40 z41 z42 z43 z44) (f3.H0_e0 z34 z35 z36 z37 z38 z39 z40 z41 z42 z43 z44)
def f3.R0 {R:Type} (rec:KT R):=fun s22 s23 s24 s25 s26 s27 s28 s29 s30 s31 s32 s33=>rec (f3.T0 s22 s23 s24 s25 s26 s27 s28 s29 s30 s31 s32 s33) (f3.H0 s22 s23 s24 s25 s26 s27 s28 s29 s30 s31 s32 s33)
theorem f3.s0_eq {R:Type} (L N:Nat) (κ:KX R) (rec:KT R) (s22:Int) (s23:Int) (s24:Bool) (s25:Int) (s26:Int) (s27:LLM) (s28:Int) (s29:Int) (s30:LT) (s31:LI) (s32:LI) (s33:LI):
  evRd (E3 L N) (evCallI (E3 L N) 1 2000) 1000 3 163 0 f3.c0 κ rec (f3.T0 s22 s23 s24 s25 s26 s27 s28 s29 s30 s31 s32 s33) (f3.H0 s22 s23 s24 s25 s26 s27 s28 s29 s30 s31 s32 s33)
  =f3.s0 L N (f3.X0_e0 κ) (f3.R0 rec) s22 s23 s24 s25 s26 s27 s28 s29 s30 s31 s32 s33:=by kernel_rfl
theorem f3.l0_eq {R:Type} (L N:Nat) (κ:KX R):∀(n:Nat) (s22:Int) (s23:Int) (s24:Bool) (s25:Int) (s26:Int) (s27:LLM) (s28:Int) (s29:Int) (s30:LT) (s31:LI) (s32:LI) (s33:LI),
  evLp (E3 L N) (evCallI (E3 L N) 1 2000) 1000 3 163 0 f3.c0 κ n (f3.T0 s22 s23 s24 s25 s26 s27 s28 s29 s30 s31 s32 s33) (f3.H0 s22 s23 s24 s25 s26 s27 s28 s29 s30 s31 s32 s33)
  =f3.l0 L N (f3.X0_e0 κ) n s22 s23 s24 s25 s26 s27 s28 s29 s30 s31 s32 s33:=by
 intro n
 induction n with
 |zero=>intros;rfl
 |succ n ih=>
  intro s22 s23 s24 s25 s26 s27 s28 s29 s30 s31 s32 s33
  rw [evLp_succ,f3.s0_eq]
  delta f3.R0
  simp only [ih]
  rfl
theorem f3.p0_e0_eq {R:Type} (L N:Nat) (κ:AV→Option R) (z34:Int) (z35:Int) (z36:Bool) (z37:Int) (z38:LLM) (z39:Int) (z40:Int) (z41:LT) (z42:LI) (z43:LI) (z44:LI):
  (contAt (E3 L N) (evCallI (E3 L N) 1 2000) 1000 3 163 0 (codeOf Tryz.f3) (finK (E3 L N) 1000 Tryz.f3 (finC (.one .bool) κ))) (.exit 0) (f3.T0_e0 z34 z35 z36 z37 z38 z39 z40 z41 z42 z43 z44) (f3.H0_e0 z34 z35 z36 z37 z38 z39 z40 z41 z42 z43 z44)
  =f3.p0_e0 L N (fun a0=>κ (.tv .bool a0)) z34 z35 z36 z37 z38 z39 z40 z41 z42 z43 z44:=by kernel_rfl
theorem f3.b_eq {R:Type} (L N:Nat) (κ:AV→Option R) (x0:Int) (x1:LI) (x2:Int) (x3:Int):
  evBody (E3 L N) (evCallI (E3 L N) 1 2000) 1000 3 Tryz.f3 [(.tv i64 x0),(.tv (.sl i64) x1),(.tv i64 x2),(.tv i64 x3)] [] [] (finC (.one .bool) κ)
  =f3.b L N (fun a0=>κ (.tv .bool a0)) x0 x1 x2 x3:=by
 refine Eq.trans (b:=f3.b' L N (fun a0=>κ (.tv .bool a0)) (fun s22 s23 s24 s25 s26 s27 s28 s29 s30 s31 s32 s33=>evLp (E3 L N) (evCallI (E3 L N) 1 2000) 1000 3 163 0 f3.c0 (contAt (E3 L N) (evCallI (E3 L N) 1 2000) 1000 3 163 0 (codeOf Tryz.f3) (finK (E3 L N) 1000 Tryz.f3 (finC (.one .bool) κ))) L (f3.T0 s22 s23 s24 s25 s26 s27 s28 s29 s30 s31 s32 s33) (f3.H0 s22 s23 s24 s25 s26 s27 s28 s29 s30 s31 s32 s33)) x0 x1 x2 x3) (by kernel_rfl) ?_
 unfold f3.b
 simp only [f3.l0_eq]
 delta f3.X0_e0
 simp only [f3.p0_e0_eq]
theorem f3.ok (L N:Nat) (hΦ:TellsOk Tryz.prog ((Φ19 L N))):EntOk Tryz.prog 3 (f3.ent L N):=entRo_ok (E:=(E3 L N)) (dep:=1000) (f:=Tryz.f3) (sound_of hΦ) okP (callI_sound (sound_of hΦ) okP 1 2000) rfl rfl fun d _ hy=>(f3.b_eq L N (unR (.one .bool)) d.1 d.2.1 d.2.2.1 d.2.2.2.1).trans (Eq.trans (b:=f3.b L N some d.1 d.2.1 d.2.2.1 d.2.2.2.1) (by kernel_rfl) hy)
def Φ3 (L N:Nat):Tells:=(addT (Φ19 L N) 3 (f3.ent L N))
theorem Φ3_ok (L N:Nat):TellsOk Tryz.prog (Φ3 L N):=addT_ok (Φ19_ok L N) (f3.ok L N (Φ19_ok L N))
end Go.Proofs.YtfdcjocallblcaaGreatDoor.Ev
