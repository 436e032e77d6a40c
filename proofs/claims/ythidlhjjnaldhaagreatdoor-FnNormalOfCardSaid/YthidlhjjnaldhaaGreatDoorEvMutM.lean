/- Maps of the caller's that are handed on, to be written by the callee. Conditions: those that each states. -/
import Derived.Test.YthidlhjjnaldhaaGreatDoorEvMut
namespace Go.Proofs.YthidlhjjnaldhaaGreatDoor.Ev
open Go
def finMM {R:Type} (rs:RS) (kt vt:Ty) (κ:AV→List (kt.den×vt.den)→Option R):AV→T→H→Option R:=fun v t h=>match t with
 |[a]=>match a with
  |.mp o=>bif Nat.beq o 0 then (match H.get 0 h with
   |some (.map k' v' es)=>if e1:k'=kt then if e2:v'=vt then (match coeRes (getV (H.del 0 h)) rs v with
     |some v=>κ v (e1▸e2▸es)
     |none=>none) else none else none
   |_=>none) else none
  |_=>none
 |_=>none
theorem finMM_some {R:Type} {rs:RS} {kt vt:Ty} {κ:AV→List (kt.den×vt.den)→Option R} {v:AV} {t:T} {h:H} {r:R} (e:finMM rs kt vt κ v t h=some r):
  ∃d v',t=[.mp 0]∧H.get 0 h=some (.map kt vt d)∧coeRes (getV (H.del 0 h)) rs v=some v'∧κ v' d=some r:=by
 unfold finMM at e
 split at e
 ·split at e
  ·rename_i o
   obtain ⟨hb,e⟩:=cond_some e
   obtain rfl:=nbeq_eq.1 hb
   split at e
   ·rename_i k' v' es hg
    split at e
    ·rename_i e1
     subst e1
     split at e
     ·rename_i e2
      subst e2
      split at e
      ·rename_i v' hv
       exact ⟨es,v',rfl,hg,hv,e⟩
      ·cases e
     ·cases e
    ·cases e
   ·cases e
  ·cases e
 ·cases e
section
variable {E : Env} {dep : Nat}
theorem call_mutM {kt vt:Ty} {α:Type} {callI:CallI α} {κ:AV→List (kt.den×vt.den)→Option α} {y:α} (hΦ:SoundΦ E) (hP:OkP E.P) (hI:CallISound E.P callI) {k:Nat} {f:Func} (hf:E.P.funcs[k]?=some f) {vw:View} {h:H} (hs:Shows vw h)
  {o:Nat} {args:List AV} {d0:List (kt.den×vt.den)} (ho:vw o=some (.map kt vt d0)) {ss:List ShM} {d:ShMs.den ss} {u:Upd} (hr:shmsC [o] ss vw args=some (d,u))
  {v':AV} {d1:List (kt.den×vt.den)} {rs:RS} (e:evBody E callI dep k f (shmAVs ss d) [.mp 0] [(0,.map kt vt d0)] (finMM rs kt vt κ)=some y) (hκ:∀v₂ d₂,κ v₂ d₂=some y→v₂=v'∧d₂=d1) (site:Nat):
  Callable E.P k∧CallSim E.P k args site h v' (u++[(o,some (.map kt vt d1))]) []:=by
 refine ⟨⟨f,hf,hP.names k f hf,by obtain ⟨c,hc⟩:=body_some e;rw [hc];rfl⟩,?_⟩
 intro _ σ w cargs inv r
 have hgo:=hs _ _ ho
 obtain ⟨hkeep,fz',co,r0⟩:=shmsC_sound (os:=[o]) (h0:=[(0,.map kt vt d0)]) ss args d u cargs.toList hr (fun o' hm=>by obtain rfl:=List.mem_singleton.1 hm;exact ⟨_,hgo⟩) hs inv r
 rw [sgOf_one] at r0
 generalize hx0e:Obj.map kt vt d0=x0 at hgo r0 e
 generalize hx1e:Obj.map kt vt d1=x1
 have hice:x0.isIce=false:=by rw [←hx0e];rfl
 have hdeep:x0.isDeep=x0.isDeep:=rfl
 have hdeep1:x1.isDeep=x0.isDeep:=by rw [←hx0e,←hx1e];rfl
 have hids1:x1.ids=[]:=by rw [←hx1e];rfl
 have hgo1:H.get o (H.apply h u)=some x0:=by rw [hkeep o (by simp)];exact hgo
 have own1:Own (H.apply h u) o:=⟨x0,hgo1,hice⟩
 have hx0:∀(σ:Sg) (h':H) (w:World),Inv σ h' w→H.get o h'=some x0→ObjRep ⟨fun _=>σ.val o,σ.fz,fun _=>σ.bs o⟩ [(0,x0)] w 0 x0:=fun σ h' w inv g=>by
  rw [←hx0e] at g
  obtain ⟨b,arr,cl,q1,q2,q3⟩:=inv.objs _ _ g
  rw [←hx0e]
  exact ⟨b,arr,cl,q1,q2,q3⟩
 have hrep0:=hx0 ⟨σ.val,fz',σ.bs⟩ _ w co.inv hgo1
 let σ₀:Sg:=⟨fun _=>σ.val o,fz',fun _=>σ.bs o⟩
 have g0:H.get 0 [(0,x0)]=some x0:=rfl
 have own0:∀i,Own [(0,x0)] i→i=0:=fun i l=>by
  obtain ⟨x,gx,-⟩:=l
  by_cases hi:i=0
  ·exact hi
  ·simp [H.get,nbeq_ne.2 (Ne.symm hi)] at gx
 have inv0:Inv σ₀ [(0,x0)] w:=by
  refine ⟨fun i x gx=>?_,fun i l b1 hb1=>co.inv.nofz o own1 b1 hb1,fun i i' l l' hne=>absurd ((own0 i l).trans (own0 i' l').symm) hne,co.inv.fzlt,by simp,fun i x gx d=>?_,fun i l b1 hb1=>co.inv.bslt o own1 b1 hb1⟩
  ·by_cases hi:i=0
   ·subst hi
    rw [g0] at gx
    obtain rfl:=Option.some.inj gx
    exact hrep0
   ·simp [H.get,nbeq_ne.2 (Ne.symm hi)] at gx
  ·by_cases hi:i=0
   ·subst hi
    rw [g0] at gx
    obtain rfl:=Option.some.inj gx
    exact co.inv.bsok o x0 hgo1 (hdeep▸d)
   ·simp [H.get,nbeq_ne.2 (Ne.symm hi)] at gx
 have hone:(σ.val o).oneCell'=true:=by
  rw [←hx0e] at hgo
  obtain ⟨b,arr,cl,q1,-,-⟩:=inv.objs _ _ hgo
  rw [q1];rfl
 have rep0:RepA σ₀ [(0,x0)] w (.mp 0) (σ.val o):=⟨hone,fun _=>rfl⟩
 have h2:=(body_sound hΦ hP hI hf e (σ:=σ₀) (cargs:=cargs) inv0 r0 (vals:=[σ.val o]) ⟨rep0,trivial⟩).2
 refine h2.mono ?_
 rintro e' w' ⟨cv,σ₁,v₁,t₁,h₁,rfl,hk,hext,hinv,hrv,hrt⟩
 obtain ⟨d1',v₂,rfl,hg1,hv,hk⟩:=finMM_some hk
 obtain ⟨hk1,hk2⟩:=hκ _ _ hk
 subst hk1
 subst hk2
 have hice1:(Obj.map kt vt d1').isIce=false:=rfl
 have hd1:(Obj.map kt vt d1').isDeep=x0.isDeep:=by rw [←hx0e];rfl
 have hinfo:∀q,x1.info=some q→x0.info=some q:=fun q e=>by rw [←hx1e] at e;cases e
 have hobj1:ObjRep σ₁ h₁ w' 0 x1:=by
  rw [←hx1e]
  exact hinv.objs _ _ hg1
 have hval1:σ₁.val 0=σ.val o:=(hrt.1.2 (live_of hg1)).symm
 have own1':Own h₁ 0:=⟨_,hg1,hice1⟩
 have hless:=del_less hinv.nodup 0
 obtain ⟨F,f1,f2,f3,hn2,f4⟩:=coeRes_sound (hless.inv hinv) hv (hless.rep hrv)
 have ownD:∀i,Own (H.del 0 h₁) i→i≠0:=fun i l hi=>by
  subst hi
  obtain ⟨x,gx,-⟩:=l
  rw [H.get_del_same 0 h₁ hinv.nodup] at gx;cases gx
 have hF0:∀b∈σ₁.bs 0,¬F b:=fun b hb hF=>by
  rcases f2 b hF with hF|⟨i,l,eb⟩
  ·exact hinv.nofz 0 own1' b hb hF
  ·exact hinv.inj i 0 (hless.own l) own1' (ownD i l) b eb hb
 have hbs1:∀b∈σ₁.bs 0,b∈σ.bs o∨w.heap.size≤b:=fun b hb=>by
  rcases hext.live 0 b own1' hb with ⟨i,-,hb'⟩|hb'
  ·exact .inl hb'
  ·exact .inr hb'
 have hFnew:∀b1,F b1→fz' b1∨b1∈σ.bs o∨w.heap.size≤b1:=fun b1 hF=>by
  rcases f2 b1 hF with hF|⟨i,l,eb⟩
  ·rcases hext.fznew b1 hF with h3|⟨i,l,eb⟩|h3
   ·exact .inl h3
   ·exact .inr (.inl eb)
   ·exact .inr (.inr h3)
  ·rcases hext.live i b1 (hless.own l) eb with ⟨i',l',eb'⟩|h3
   ·exact .inr (.inl eb')
   ·exact .inr (.inr h3)
 have hblocks:∀b1,b1<w.heap.size→b1∉σ.bs o→w'.heap[b1]?=w.heap[b1]?:=fun b1 hb1 hne=>hext.blocks b1 hb1 fun i l hb2=>hne hb2
 have hsame:SameO ⟨σ.val,fz',σ.bs⟩ ⟨σ.val,F,fun i=>if i=o then σ₁.bs 0 else σ.bs i⟩ (H.apply h u) (H.put o x1 (H.apply h u)) o:=by
  refine .inr ⟨live_of hgo1,rfl,fun x' q hx hq=>?_⟩
  rw [H.get_put_same] at hx
  obtain rfl:=Option.some.inj hx
  exact ⟨x0,hgo1,hinfo q hq⟩
 have fzh:∀b,fz' b→w'.heap[b]?=w.heap[b]?:=fun b hb=>hblocks b (co.inv.fzlt b hb) fun hb'=>co.inv.nofz o own1 b hb' hb
 obtain ⟨e1,e2,e3⟩:=changeF (σ:=⟨σ.val,fz',σ.bs⟩) (σ':=⟨σ.val,F,fun i=>if i=o then σ₁.bs 0 else σ.bs i⟩) (h':=H.put o x1 (H.apply h u)) (w':=w') co.inv o x1 (fun i hi=>.inl (H.get_put_ne _ hi _)) (H.get_put_same _ _ _) (fun _ _=>rfl) (fun i hi=>if_neg hi)
  (fun b hb=>f1 b (hext.fz b hb))
  (fun b hF=>by
   rcases hFnew b hF with q|q
   ·exact .inl q
   ·exact .inr ⟨q.imp (fun q=>⟨o,own1,q,.inl rfl⟩) id,f3 b hF,fun hb=>hF0 b (by simpa using hb) hF⟩)
  (H.nodup_put _ _ _ co.inv.nodup) hext.os hext.tape hext.output hext.size
  (fun b hb hn=>hblocks b hb (hn o own1 (.inl rfl)))
  (fun b hb=>by
   have hb:b∈σ₁.bs 0:=by simpa using hb
   exact ⟨(hbs1 b hb).imp (fun q=>⟨o,own1,q,.inl rfl⟩) id,hinv.bslt 0 own1' b hb⟩)
  (fun d=>by
   show (if o=o then σ₁.bs 0 else σ.bs o)=_
   rw [if_pos rfl,hinv.bsok 0 _ hg1 (hd1.trans (hdeep1.symm.trans d)),hval1])
  (fun i x g hi hm=>hsame)
  (obj_move (σ:=σ₁) (h:=h₁) (o:=0) hids1 hobj1 hval1.symm (if_pos rfl) f1)
 have happ:H.apply h (u++[(o,some x1)])=H.put o x1 (H.apply h u):=by rw [apply_append];rfl
 rw [←happ] at e1 e2 e3 hsame
 exact ⟨cv,_,rfl,co.ext.trans e1,e2,f4 _ _ _,fun a c _ r=>e3 a c (fun _=>hsame) (co.keep a c r)⟩
end
def mutDM (kt vt:Ty) (ss:List ShM) (vw:View) (args:List AV):Option (Nat×List (kt.den×vt.den)×ShMs.den ss×Upd):=match mutOs ss args with
 |some o=>match vw o with
  |some (.map k' v' es)=>if e1:k'=kt then if e2:v'=vt then (match shmsC [o] ss vw args with
    |some (d,u)=>some (o,e1▸e2▸es,d,u)
    |none=>none) else none else none
  |_=>none
 |none=>none
theorem mutDM_some {kt vt:Ty} {ss:List ShM} {vw:View} {args:List AV} {o:Nat} {d0:List (kt.den×vt.den)} {d:ShMs.den ss} {u:Upd} (e:mutDM kt vt ss vw args=some (o,d0,d,u)):
  vw o=some (.map kt vt d0)∧shmsC [o] ss vw args=some (d,u):=by
 unfold mutDM at e
 split at e
 ·split at e
  ·rename_i k' v' es hg
   split at e
   ·rename_i e1
    subst e1
    split at e
    ·rename_i e2
     subst e2
     split at e
     ·rename_i d' u' hr
      obtain ⟨rfl,rfl,rfl,rfl⟩:_∧_∧_∧_:=by simpa using e
      exact ⟨hg,hr⟩
     ·cases e
    ·cases e
   ·cases e
  ·cases e
 ·cases e
end Go.Proofs.YthidlhjjnaldhaaGreatDoor.Ev
