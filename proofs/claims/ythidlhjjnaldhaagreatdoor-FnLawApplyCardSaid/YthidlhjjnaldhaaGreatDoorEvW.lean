/- What functions tell, out of their bodies: functions that write a box of the caller's. Conditions as in the text before. -/
import Derived.Test.YthidlhjjnaldhaaGreatDoorEvV
namespace Go.Proofs.YthidlhjjnaldhaaGreatDoor.Ev
open Go
theorem finM_some {R:Type} {rs:RS} {ts:List Ty} {κ:AV→Dens ts→Option R} {v:AV} {t:T} {h:H} {r:R} (e:finM rs ts κ v t h=some r):
  ∃cs d v',t=[.ptr 0 0]∧H.get 0 h=some (.box cs)∧densOf ts cs=some d∧coeRes (getV (H.del 0 h)) rs v=some v'∧κ v' d=some r:=by
 unfold finM at e
 split at e
 ·split at e
  ·rename_i o off
   obtain ⟨hb,e⟩:=cond_some e
   simp only [Bool.and_eq_true] at hb
   obtain rfl:=nbeq_eq.1 hb.1
   obtain rfl:=nbeq_eq.1 hb.2
   split at e
   ·rename_i cs hg
    split at e
    ·rename_i d hd
     split at e
     ·rename_i v' hv
      exact ⟨cs,d,v',rfl,hg,hd,hv,e⟩
     ·cases e
    ·cases e
   ·cases e
  ·cases e
 ·cases e
theorem del_less {h:H} (n:NoD h) (o:Nat):Less (H.del o h) h:=
 ⟨H.nodup_del o h n,fun i=>by
  by_cases e:i=o
  ·subst e;exact .inl (H.get_del_same i h n)
  ·exact .inr (H.get_del_ne e h)⟩
theorem obj_move {σ σ':Sg} {h h':H} {w:World} {o o':Nat} {x:Obj} (hids:x.ids=[]) (r:ObjRep σ h w o x) (hv:σ'.val o'=σ.val o) (hb:σ'.bs o'=σ.bs o) (hf:∀b,σ.fz b→σ'.fz b):ObjRep σ' h' w o' x:=by
 cases x with
 |box cs=>
  obtain ⟨b,vs,ty,q1,q2,q3⟩:=r
  exact ⟨b,vs,ty,by rw [hv];exact q1,q2,repAs_noids hf (fun _ _=>rfl) hids q3⟩
 |row el t xs=>
  obtain ⟨cs,q1,q2⟩:=r
  exact ⟨cs,by rw [hv];exact q1,RepPs.mono hf (fun _ _=>rfl) q2⟩
 |map=>exact map_mono r hv hf (fun _ _=>rfl) fun _ _=>rfl
 |cel=>exact cel_mono r hv hf (fun _ _=>rfl)
 |ice t xs=>
  show RepP _ w _ (σ'.val o')
  rw [hv];exact RepP.mono hf (fun _ _=>rfl) r
 |deep m t xs q=>
  obtain ⟨cs,bss,h1,h2,h3,h4,h5,h6⟩:=r
  refine ⟨cs,bss,by rw [hv];exact h1,h2,fun p pv c bs hp hc hb=>?_,by rw [hb,hv];exact h4,by rw [hb];exact h5,h6⟩
  have h7:=h3 p pv c bs hp hc hb
  cases hq:holeAt t q p with
  |none=>rw [hq] at h7;exact h7
  |some v=>
   rw [hq] at h7
   refine ⟨h7.1,h7.2.1,repA_noids hf (fun _ _=>rfl) ?_ h7.2.2⟩
   unfold holeAt at hq
   split at hq
   ·split at hq
    ·obtain rfl:=Option.some.inj hq;exact hids
    ·cases hq
   ·cases hq
section
variable {E : Env} {dep : Nat}
theorem call_obj {R:Type} {tr:List Ty} {callI:CallI R} (hΦ:SoundΦ E) (hP:OkP E.P) (hI:CallISound E.P callI) {k:Nat} {f:Func} (hf:E.P.funcs[k]?=some f) {vw:View} {h:H} (hs:Shows vw h)
  {o:Nat} {rest:List AV} {a0 a0':AV} {x0 x0' x1:Obj} (ho:vw o=some x0) (hice:x0.isIce=false) (hdeep:x0'.isDeep=x0.isDeep) (hdeep1:x1.isDeep=x0.isDeep) (hids1:x1.ids=[])
  (ha:∀(σ:Sg) (w:World) (c:Value) (fz:Nat→Prop),RepA σ h w a0 c→RepA ⟨fun _=>σ.val o,fz,fun _=>σ.bs o⟩ [(0,x0')] w a0' c)
  (hx0:∀(σ:Sg) (h':H) (w:World),Inv σ h' w→H.get o h'=some x0→ObjRep ⟨fun _=>σ.val o,σ.fz,fun _=>σ.bs o⟩ [(0,x0')] w 0 x0')
  (hback:∀(σ:Sg) (w:World) (c:Value) (σ₁:Sg) (h₁:H) (w':World),RepA σ h w a0 c→Live h₁ 0→RepA σ₁ h₁ w' a0' c→σ₁.val 0=σ.val o)
  {d:Dens tr} {u:Upd} (hr:coeD tr vw rest=some (d,u)) (hu:u.any (fun p=>Nat.beq p.1 o)=false)
  {v':AV} {rs:RS} {κ:AV→T→H→Option R} {r0:R} (e:evBody E callI dep k f (a0'::avs tr d) [a0'] [(0,x0')] κ=some r0)
  (hfin:∀v t h',κ v t h'=some r0→t=[a0']∧(∃x1',H.get 0 h'=some x1'∧x1'.isIce=false∧x1'.isDeep=x0.isDeep∧∀(σ₁:Sg) (w':World),ObjRep σ₁ h' w' 0 x1'→ObjRep σ₁ h' w' 0 x1)∧coeRes (getV (H.del 0 h')) rs v=some v'∧∀q,x1.info=some q→x0.info=some q) (site:Nat):
  Callable E.P k∧CallSim E.P k (a0::rest) site h v' (u++[(o,some x1)]) []:=by
 refine ⟨⟨f,hf,hP.names k f hf,by obtain ⟨c,hc⟩:=body_some e;rw [hc];rfl⟩,?_⟩
 intro _ σ w cargs inv r
 have hgo:=hs _ _ ho
 obtain ⟨l,hl,hd⟩:=coeD_some hr
 match hca:cargs.toList,r with
 |c0::crest,r=>
 obtain ⟨ra,rr⟩:=r
 obtain ⟨fz',co,r0,-⟩:=coeArgs_sound hl hs inv rr
 have hgo1:H.get o (H.apply h u)=some x0:=by rw [get_dels co.dels h o hu];exact hgo
 have own1:Own (H.apply h u) o:=⟨x0,hgo1,hice⟩
 have hrep0:=hx0 ⟨σ.val,fz',σ.bs⟩ _ w co.inv hgo1
 let σ₀:Sg:=⟨fun _=>σ.val o,fz',fun _=>σ.bs o⟩
 have g0:H.get 0 [(0,x0')]=some x0':=rfl
 have own0:∀i,Own [(0,x0')] i→i=0:=fun i l=>by
  obtain ⟨x,gx,-⟩:=l
  by_cases hi:i=0
  ·exact hi
  ·simp [H.get,nbeq_ne.2 (Ne.symm hi)] at gx
 have inv0:Inv σ₀ [(0,x0')] w:=by
  refine ⟨fun i x gx=>?_,fun i l b1 hb1=>co.inv.nofz o own1 b1 hb1,fun i i' l l' hne=>absurd ((own0 i l).trans (own0 i' l').symm) hne,co.inv.fzlt,by simp,fun i x gx d=>?_,fun i l b1 hb1=>co.inv.bslt o own1 b1 hb1⟩
  ·by_cases hi:i=0
   ·subst hi
    rw [g0] at gx
    obtain rfl:=Option.some.inj gx
    exact hrep0
   ·simp [H.get,nbeq_ne.2 (Ne.symm hi)] at gx
  ·by_cases hi:i=0
   ·subst hi
    rw [g0] at gx
    obtain rfl:=Option.some.inj gx
    exact co.inv.bsok o x0 hgo1 (hdeep▸d)
   ·simp [H.get,nbeq_ne.2 (Ne.symm hi)] at gx
 have rep0:RepA σ₀ [(0,x0')] w a0' c0:=ha σ w c0 fz' ra
 have h2:=(body_sound hΦ hP hI hf e (σ:=σ₀) (cargs:=cargs) inv0 (by rw [hca];exact ⟨rep0,repAs_noids (σ:=⟨σ.val,fz',σ.bs⟩) (σ':=σ₀) (fun _ h=>h) (fun _ _=>rfl) (avs_ids _ _) (densOf_rep hd r0)⟩) (vals:=[c0]) ⟨rep0,trivial⟩).2
 refine h2.mono ?_
 rintro e' w' ⟨cv,σ₁,v₁,t₁,h₁,rfl,hk,hext,hinv,hrv,hrt⟩
 obtain ⟨rfl,⟨x1',hg1,hice1,hd1,hconv⟩,hv,hinfo⟩:=hfin _ _ _ hk
 have hobj1:=hconv _ _ (hinv.objs _ _ hg1)
 have hval1:σ₁.val 0=σ.val o:=hback σ w c0 σ₁ h₁ w' ra (live_of hg1) hrt.1
 have own1':Own h₁ 0:=⟨x1',hg1,hice1⟩
 have hless:=del_less hinv.nodup 0
 obtain ⟨F,f1,f2,f3,hn2,f4⟩:=coeRes_sound (hless.inv hinv) hv (hless.rep hrv)
 have ownD:∀i,Own (H.del 0 h₁) i→i≠0:=fun i l hi=>by
  subst hi
  obtain ⟨x,gx,-⟩:=l
  rw [H.get_del_same 0 h₁ hinv.nodup] at gx;cases gx
 have hF0:∀b∈σ₁.bs 0,¬F b:=fun b hb hF=>by
  rcases f2 b hF with hF|⟨i,l,eb⟩
  ·exact hinv.nofz 0 own1' b hb hF
  ·exact hinv.inj i 0 (hless.own l) own1' (ownD i l) b eb hb
 have hbs1:∀b∈σ₁.bs 0,b∈σ.bs o∨w.heap.size≤b:=fun b hb=>by
  rcases hext.live 0 b own1' hb with ⟨i,-,hb'⟩|hb'
  ·exact .inl hb'
  ·exact .inr hb'
 have hFnew:∀b1,F b1→fz' b1∨b1∈σ.bs o∨w.heap.size≤b1:=fun b1 hF=>by
  rcases f2 b1 hF with hF|⟨i,l,eb⟩
  ·rcases hext.fznew b1 hF with h3|⟨i,l,eb⟩|h3
   ·exact .inl h3
   ·exact .inr (.inl eb)
   ·exact .inr (.inr h3)
  ·rcases hext.live i b1 (hless.own l) eb with ⟨i',l',eb'⟩|h3
   ·exact .inr (.inl eb')
   ·exact .inr (.inr h3)
 have hblocks:∀b1,b1<w.heap.size→b1∉σ.bs o→w'.heap[b1]?=w.heap[b1]?:=fun b1 hb1 hne=>hext.blocks b1 hb1 fun i l hb2=>hne hb2
 have hsame:SameO ⟨σ.val,fz',σ.bs⟩ ⟨σ.val,F,fun i=>if i=o then σ₁.bs 0 else σ.bs i⟩ (H.apply h u) (H.put o x1 (H.apply h u)) o:=by
  refine .inr ⟨live_of hgo1,rfl,fun x' q hx hq=>?_⟩
  rw [H.get_put_same] at hx
  obtain rfl:=Option.some.inj hx
  exact ⟨x0,hgo1,hinfo q hq⟩
 have fzh:∀b,fz' b→w'.heap[b]?=w.heap[b]?:=fun b hb=>hblocks b (co.inv.fzlt b hb) fun hb'=>co.inv.nofz o own1 b hb' hb
 obtain ⟨e1,e2,e3⟩:=changeF (σ:=⟨σ.val,fz',σ.bs⟩) (σ':=⟨σ.val,F,fun i=>if i=o then σ₁.bs 0 else σ.bs i⟩) (h':=H.put o x1 (H.apply h u)) (w':=w') co.inv o x1 (fun i hi=>.inl (H.get_put_ne _ hi _)) (H.get_put_same _ _ _) (fun _ _=>rfl) (fun i hi=>if_neg hi)
  (fun b hb=>f1 b (hext.fz b hb))
  (fun b hF=>by
   rcases hFnew b hF with q|q
   ·exact .inl q
   ·exact .inr ⟨q.imp (fun q=>⟨o,own1,q,.inl rfl⟩) id,f3 b hF,fun hb=>hF0 b (by simpa using hb) hF⟩)
  (H.nodup_put _ _ _ co.inv.nodup) hext.os hext.tape hext.output hext.size
  (fun b hb hn=>hblocks b hb (hn o own1 (.inl rfl)))
  (fun b hb=>by
   have hb:b∈σ₁.bs 0:=by simpa using hb
   exact ⟨(hbs1 b hb).imp (fun q=>⟨o,own1,q,.inl rfl⟩) id,hinv.bslt 0 own1' b hb⟩)
  (fun d=>by
   show (if o=o then σ₁.bs 0 else σ.bs o)=_
   rw [if_pos rfl,hinv.bsok 0 x1' hg1 (hd1.trans (hdeep1.symm.trans d)),hval1])
  (fun i x g hi hm=>hsame)
  (obj_move (σ:=σ₁) (h:=h₁) (o:=0) hids1 hobj1 hval1.symm (if_pos rfl) f1)
 have happ:H.apply h (u++[(o,some x1)])=H.put o x1 (H.apply h u):=by rw [apply_append];rfl
 rw [←happ] at e1 e2 e3 hsame
 exact ⟨cv,_,rfl,co.ext.trans e1,e2,f4 _ _ _,fun a c _ r=>e3 a c (fun _=>hsame) (co.keep a c r)⟩
theorem call_box {ts tr:List Ty} {α:Type} {callI:CallI α} {κ:AV→Dens ts→Option α} {y:α} (hΦ:SoundΦ E) (hP:OkP E.P) (hI:CallISound E.P callI) {k:Nat} {f:Func} (hf:E.P.funcs[k]?=some f) {vw:View} {h:H} (hs:Shows vw h)
  {o:Nat} {rest:List AV} {cs:List AV} (ho:vw o=some (.box cs)) {d0:Dens ts} (hd0:densOf ts cs=some d0) {d:Dens tr} {u:Upd} (hr:coeD tr vw rest=some (d,u)) (hu:u.any (fun p=>Nat.beq p.1 o)=false)
  {v':AV} {d1:Dens ts} {rs:RS} (e:evBody E callI dep k f (.ptr 0 0::avs tr d) [.ptr 0 0] [(0,.box (avs ts d0))] (finM rs ts κ)=some y) (hκ:∀v₂ d₂,κ v₂ d₂=some y→v₂=v'∧d₂=d1) (site:Nat):
  Callable E.P k∧CallSim E.P k (.ptr o 0::rest) site h v' (u++[(o,some (.box (avs ts d1)))]) []:=by
 have hgo:=hs _ _ ho
 refine call_obj (rs:=rs) hΦ hP hI hf hs (a0:=.ptr o 0) (a0':=.ptr 0 0) (x0':=.box (avs ts d0)) (x1:=.box (avs ts d1)) ho rfl rfl rfl (avs_ids _ _)
  (fun σ w c fz ra=>?_) (fun σ h' w inv g=>?_) (fun σ w c σ₁ h₁ w' ra l1 rb=>?_) hr hu e (fun v t h' hk=>?_) site
 ·refine ⟨ra.1,fun _=>?_⟩
  obtain ⟨b,hb,hc⟩:=ra.2 (live_of hgo)
  exact ⟨b,hb,hc⟩
 ·obtain ⟨b,vs,ty,q1,q2,q3⟩:=inv.objs _ _ g
  exact ⟨b,vs,ty,q1,q2,repAs_noids (σ:=σ) (σ':=⟨fun _=>σ.val o,σ.fz,fun _=>σ.bs o⟩) (h:=h') (w:=w) (fun _ h=>h) (fun _ _=>rfl) (avs_ids _ _) (densOf_rep hd0 q3)⟩
 ·obtain ⟨b,hb,hc⟩:=ra.2 (live_of hgo)
  obtain ⟨b',hb',hc'⟩:=rb.2 l1
  rw [hc] at hc'
  obtain rfl:b=b':=by simpa using hc'
  rw [hb,hb']
 ·obtain ⟨cs1,d1',v₂,rfl,hg1,hd1,hv,hk⟩:=finM_some hk
  obtain ⟨hk1,hk2⟩:=hκ _ _ hk
  subst hk1
  rw [hk2] at hd1
  refine ⟨rfl,⟨_,hg1,rfl,rfl,fun σ₁ w' r=>?_⟩,hv,fun q e=>by cases e⟩
  obtain ⟨b,vs,ty,q1,q2,q3⟩:=r
  exact ⟨b,vs,ty,q1,q2,repAs_noids (σ:=σ₁) (h:=h') (fun _ h=>h) (fun _ _=>rfl) (avs_ids _ _) (densOf_rep hd1 q3)⟩
end
theorem boxD_some {ts tr:List Ty} {vw:View} {args:List AV} {o:Nat} {d0:Dens ts} {d:Dens tr} {u:Upd} (e:boxD ts tr vw args=some (o,d0,d,u)):
  ∃rest cs,args=.ptr o 0::rest∧vw o=some (.box cs)∧densOf ts cs=some d0∧coeD tr vw rest=some (d,u)∧u.any (fun p=>Nat.beq p.1 o)=false:=by
 unfold boxD at e
 split at e
 ·split at e
  ·rename_i rest a o' off
   replace e:=cond_some e
   obtain ⟨hb,e⟩:=e
   obtain rfl:=nbeq_eq.1 hb
   split at e
   ·rename_i cs hg
    split at e
    ·rename_i d0' hd0
     split at e
     ·rename_i d' u' hd
      replace e:=cond_none e
      obtain ⟨hu,e⟩:=e
      replace e:=Option.some.inj e
      obtain ⟨rfl,rfl,rfl,rfl⟩:o'=o∧d0'=d0∧d'=d∧u'=u:=by simpa using e
      exact ⟨rest,cs,rfl,hg,hd0,hd,hu⟩
     ·cases e
    ·cases e
   ·cases e
  ·cases e
 ·cases e
theorem finB_some {ts:List Ty} {v:AV} {t:T} {h:H} {R:Type} {κ:Dens ts→Option R} {r:R} (e:finB ts κ v t h=some r):∃s0 cs d,v=.ptr s0 0∧H.get s0 h=some (.box cs)∧densOf ts cs=some d∧κ d=some r:=by
 unfold finB at e
 split at e
 ·rename_i s off
  obtain ⟨hb,e⟩:=cond_some e
  obtain rfl:=nbeq_eq.1 hb
  split at e
  ·rename_i cs hg
   split at e
   ·rename_i d' hd
    exact ⟨s,cs,d',rfl,hg,hd,e⟩
   ·cases e
  ·cases e
 ·cases e
section
variable {E : Env} {dep : Nat}
theorem call_newbox {ts tb:List Ty} {α:Type} {callI:CallI α} {κ:Dens tb→Option α} {y:α} (hΦ:SoundΦ E) (hP:OkP E.P) (hI:CallISound E.P callI) {k:Nat} {f:Func} (hf:E.P.funcs[k]?=some f) {vw:View} {h:H} (hs:Shows vw h) {args:List AV} {d:Dens ts} {u:Upd} (ha:coeD ts vw args=some (d,u))
  {d1:Dens tb} (e:evBody E callI dep k f (avs ts d) [] [] (finB tb κ)=some y) (hκ:∀d₂,κ d₂=some y→d₂=d1) (site:Nat):
  Callable E.P k∧CallSim E.P k args site h (.ptr site 0) (u++[(site,some (.box (avs tb d1)))]) []:=by
 refine ⟨⟨f,hf,hP.names k f hf,by obtain ⟨c,hc⟩:=body_some e;rw [hc];rfl⟩,?_⟩
 intro hsite σ w cargs inv r
 have hsite:=hsite ⟨_,List.mem_append_right _ (List.mem_singleton.2 rfl)⟩
 obtain ⟨l,hl,hd⟩:=coeD_some ha
 obtain ⟨fz',co,r0,hn⟩:=coeArgs_sound hl hs inv r
 have r0:RepAs ⟨σ.val,fz',σ.bs⟩ [] w (avs ts d) cargs.toList:=repAs_noids (fun _ h=>h) (fun _ _=>rfl) (avs_ids _ _) (densOf_rep hd r0)
 have h2:=(body_sound hΦ hP hI hf e (σ:=⟨σ.val,fz',σ.bs⟩) (nil_inv co.inv.fzlt) r0 (vals:=[]) trivial).2
 refine h2.mono ?_
 rintro e' w' ⟨cv,σ₁,v₁,t₁,h₁,rfl,hk,hext,hinv,hrep,-⟩
 obtain ⟨s0,cs1,d2,rfl,hv,hd1,hk⟩:=finB_some hk
 rw [hκ _ hk] at hd1
 obtain ⟨g1,g2,g3,g4⟩:=data_post inv co hext hinv (F:=σ₁.fz) (fun _ h=>h) (fun _ h=>.inl h) hinv.fzlt
 obtain ⟨b,hval,hcv⟩:=hrep.2 (live_of hv)
 obtain ⟨b',vs,ty,hval',hheap,hreps⟩:=hinv.objs _ _ hv
 have hvv:=hval'
 rw [hval] at hvv
 obtain rfl:b=b':=by simpa using hvv
 have hcv':cv=σ₁.val s0:=by rw [hval,hcv]
 have happ:H.apply h (u++[(site,some (.box (avs tb d1)))])=H.put site (.box (avs tb d1)) (H.apply h u):=by rw [apply_append];rfl
 have hnew:∀b,blk cv=some b→w.heap.size≤b:=by
  intro b hb
  rcases hext.live s0 b (own_box hv) (hinv.mem hv rfl (by rw [←hcv'];exact hb)) with ⟨o',l',-⟩|hb
  ·exact (nil_own l').elim
  ·exact hb
 have hsn:site∉H.ids (H.apply h u):=fun hi=>hsite.1 (co.ids site hi)
 obtain ⟨k1,k2⟩:=add_obj g2 hsn (.box (avs tb d1)) cv ⟨b,vs,ty,by rw [Sg.set_same,hcv],hheap,repAs_noids (σ:=σ₁) (σ':=Sg.set ⟨σ.val,σ₁.fz,σ.bs⟩ site cv) (fun _ h=>h) (fun _ _=>rfl) (avs_ids _ _) (densOf_rep hd1 hreps)⟩ (fun b hb=>⟨hinv.bslt s0 (own_box hv) b (hinv.mem hv rfl (by rw [←hcv'];exact hb)),hinv.nofz s0 (own_box hv) b (hinv.mem hv rfl (by rw [←hcv'];exact hb)),fun o l hb'=>by
  have h1:=live_lt co.inv l hb'
  have h2:=hnew b hb
  omega⟩)
 refine ⟨cv,Sg.set ⟨σ.val,σ₁.fz,σ.bs⟩ site cv,rfl,?_,?_,?_,?_⟩
 ·show Ext σ h w _ (H.apply h (u++_)) w'
  rw [happ]
  refine ⟨g1.os,g1.tape,g1.output,g1.size,g1.fz,g1.blocks,g1.fznew,fun o b l hb=>?_⟩
  by_cases e:o=site
  ·subst e
   rw [Sg.bs_same,mem_blk] at hb
   exact .inr (hnew b hb)
  ·rw [Sg.bs_ne _ _ e] at hb
   exact g1.live o b ((own_eq (H.get_put_ne _ e _)).1 l) hb
 ·show Inv _ (H.apply h (u++_)) w'
  rw [happ];exact k1
 ·show RepA _ (H.apply h (u++_)) w' _ _
  rw [happ]
  exact ⟨hrep.1,fun _=>⟨b,by rw [Sg.set_same,hcv],hcv⟩⟩
 ·intro b c hbn r
  show RepA _ (H.apply h (u++_)) w' _ _
  rw [happ]
  exact k2 b c (fun hi=>(hbn site hi).2 rfl _ (List.mem_append_right _ (List.mem_singleton.2 rfl))) (g3 b c r)
end
end Go.Proofs.YthidlhjjnaldhaaGreatDoor.Ev
