/- What functions tell, out of their bodies: functions of data, whose result is data or a row of the caller's own. Conditions as in the text before. -/
import Derived.Test.YthidlhjjnaldhaaGreatDoorEvU
namespace Go.Proofs.YthidlhjjnaldhaaGreatDoor.Ev
open Go
section
variable {σ : Sg} {h : H} {w w' : World}
theorem add_objB (inv:Inv σ h w) {site:Nat} (hs:site∉H.ids h) (obj:Obj) (nv:Value) (bs:List Nat) (hobj:ObjRep (σ.setB site nv bs) (H.put site obj h) w site obj) (hbs:obj.isDeep=false→bs=(blk nv).toList)
  (hno:∀b∈bs,b<w.heap.size∧¬σ.fz b∧∀o,Own h o→b∉σ.bs o):
  Inv (σ.setB site nv bs) (H.put site obj h) w∧(∀a c,site∉AV.ids a→RepA σ h w a c→RepA (σ.setB site nv bs) (H.put site obj h) w a c):=by
 have hget:∀o,o≠site→H.get o (H.put site obj h)=H.get o h:=fun o ho=>H.get_put_ne obj ho h
 have hval:∀o,o≠site→(σ.setB site nv bs).val o=σ.val o:=fun o ho=>Sg.setB_ne σ nv bs ho
 have hbs':∀o,o≠site→(σ.setB site nv bs).bs o=σ.bs o:=fun o ho=>Sg.bsB_ne σ nv bs ho
 have keep:∀a c,site∉AV.ids a→RepA σ h w a c→RepA (σ.setB site nv bs) (H.put site obj h) w a c:=fun a c hn r=>
  RepA.mono (σ:=σ) (σ':=σ.setB site nv bs) (fun _ h=>h) (fun _ _=>rfl) a c (fun o ho=>by
   have hne:o≠site:=fun e=>hn (e▸ho)
   exact sameO_eq (hget o hne) (hval o hne)) r
 have keeps:∀a c,site∉AV.idsL a→RepAs σ h w a c→RepAs (σ.setB site nv bs) (H.put site obj h) w a c:=fun a c hn r=>
  RepAs.mono (σ:=σ) (σ':=σ.setB site nv bs) (fun _ h=>h) (fun _ _=>rfl) a c (fun o ho=>by
   have hne:o≠site:=fun e=>hn (e▸ho)
   exact sameO_eq (hget o hne) (hval o hne)) r
 have own:∀o,o≠site→(Own (H.put site obj h) o↔Own h o):=fun o ho=>own_eq (hget o ho)
 refine ⟨⟨fun o x g=>?_,fun o l b hb=>?_,fun o o' l l' hne b hb=>?_,inv.fzlt,H.nodup_put site obj h inv.nodup,fun o x g d=>?_,fun o l b hb=>?_⟩,keep⟩
 ·by_cases e:o=site
  ·subst e
   rw [H.get_put_same] at g
   obtain rfl:=Option.some.inj g
   exact hobj
  ·rw [hget o e] at g
   have hr:=inv.objs o x g
   cases x with
   |box cs=>
    obtain ⟨b,vs,ty,hv,hb,hc⟩:=hr
    exact ⟨b,vs,ty,by rw [hval o e,hv],hb,keeps _ _ (fun hi=>hs (H.ids_of_get g hi)) hc⟩
   |row el t xs=>
    obtain ⟨cs,ho,hc⟩:=hr
    exact ⟨cs,by rw [hval o e];exact ho,hc⟩
   |map=>exact map_mono hr (hval o e) (fun _ h=>h) (fun _ _=>rfl) fun _ _=>rfl
   |cel=>exact cel_mono hr (hval o e) (fun _ h=>h) (fun _ _=>rfl)
   |ice t xs=>
    show RepP σ.fz w _ ((σ.setB site nv bs).val o)
    rw [hval o e];exact hr
   |deep m t xs q=>exact deep_mono hr (hval o e) (hbs' o e) (fun _ _=>rfl) fun i off v c hq r=>keep v c (fun hi=>hs (H.ids_of_get g (by subst hq;exact hi))) r
 ·by_cases e:o=site
  ·subst e
   rw [Sg.bsB_same] at hb
   exact (hno b hb).2.1
  ·rw [hbs' o e] at hb
   exact inv.nofz o ((own o e).1 l) b hb
 ·by_cases e:o=site
  ·subst e
   have e':o'≠o:=Ne.symm hne
   rw [Sg.bsB_same] at hb
   rw [hbs' o' e']
   exact (hno b hb).2.2 o' ((own o' e').1 l')
  ·rw [hbs' o e] at hb
   by_cases e':o'=site
   ·subst e'
    rw [Sg.bsB_same]
    intro hb'
    exact (hno b hb').2.2 o ((own o e).1 l) hb
   ·rw [hbs' o' e']
    exact inv.inj o o' ((own o e).1 l) ((own o' e').1 l') hne b hb
 ·by_cases e:o=site
  ·subst e
   rw [H.get_put_same] at g
   obtain rfl:=Option.some.inj g
   rw [Sg.bsB_same,Sg.setB_same];exact hbs d
  ·rw [hget o e] at g
   rw [hbs' o e,hval o e];exact inv.bsok o x g d
 ·by_cases e:o=site
  ·subst e
   rw [Sg.bsB_same] at hb
   exact (hno b hb).1
  ·rw [hbs' o e] at hb
   exact inv.bslt o ((own o e).1 l) b hb
theorem add_obj (inv:Inv σ h w) {site:Nat} (hs:site∉H.ids h) (obj:Obj) (nv:Value) (hobj:ObjRep (σ.set site nv) (H.put site obj h) w site obj)
  (hno:∀b,blk nv=some b→b<w.heap.size∧¬σ.fz b∧∀o,Own h o→b∉σ.bs o):
  Inv (σ.set site nv) (H.put site obj h) w∧(∀a c,site∉AV.ids a→RepA σ h w a c→RepA (σ.set site nv) (H.put site obj h) w a c):=
 add_objB inv hs obj nv _ hobj (fun _=>rfl) fun b hb=>hno b (mem_blk.1 hb)
theorem data_post {u:Upd} {fz':Nat→Prop} (inv:Inv σ h w) (co:Coed σ h w u fz') {σ₁:Sg} {h₁:H} (e:Ext ⟨σ.val,fz',σ.bs⟩ [] w σ₁ h₁ w') (inv₁:Inv σ₁ h₁ w') {F:Nat→Prop} (hF:∀b,σ₁.fz b→F b)
  (hF':∀b,F b→σ₁.fz b∨∃o,Own h₁ o∧b∈σ₁.bs o) (hlt:∀b,F b→b<w'.heap.size):
  Ext σ h w ⟨σ.val,F,σ.bs⟩ (H.apply h u) w'∧Inv ⟨σ.val,F,σ.bs⟩ (H.apply h u) w'∧(∀a c,RepA σ h w a c→RepA ⟨σ.val,F,σ.bs⟩ (H.apply h u) w' a c)∧∀b,F b→fz' b∨w.heap.size≤b:=by
 have hg:=grown_of_ext e
 have hnew:∀b,F b→fz' b∨w.heap.size≤b:=by
  intro b hb
  rcases hF' b hb with hb|⟨o,l,eb⟩
  ·rcases e.fznew b hb with hb|⟨o,l,-⟩|hb
   ·exact .inl hb
   ·exact (nil_own l).elim
   ·exact .inr hb
  ·rcases e.live o b l eb with ⟨o',l',-⟩|hb
   ·exact (nil_own l').elim
   ·exact .inr hb
 have fzF:∀b,fz' b→F b:=fun b hb=>hF b (e.fz b hb)
 have hinv:=inv_grown co.inv hg
 refine ⟨co.ext.trans ⟨hg.os,hg.tape,hg.output,hg.size,fzF,fun b hb _=>hg.block b hb (by simp),fun b hb=>?_,fun o b l e=>.inl ⟨o,l,e⟩⟩,⟨fun o x g=>?_,fun o l b hb hf=>?_,hinv.inj,hlt,hinv.nodup,hinv.bsok,hinv.bslt⟩,fun a c r=>?_,hnew⟩
 ·rcases hnew b hb with hb|hb
  ·exact .inl hb
  ·exact .inr (.inr hb)
 ·have h1:=hinv.objs o x g
  cases x with
  |box cs=>
   obtain ⟨b,vs,ty,h2,h3,h4⟩:=h1
   exact ⟨b,vs,ty,h2,h3,RepAs.mono (σ:=⟨σ.val,fz',σ.bs⟩) (σ':=⟨σ.val,F,σ.bs⟩) fzF (fun _ _=>rfl) _ _ (fun i _=>sameO_eq rfl rfl) h4⟩
  |row el t xs=>
   obtain ⟨cs,h2,h3⟩:=h1
   exact ⟨cs,h2,RepPs.mono fzF (fun _ _=>rfl) h3⟩
  |map _ _ _=>exact map_mono h1 rfl fzF (fun _ _=>rfl) fun _ _=>rfl
  |cel _ _=>exact cel_mono h1 rfl fzF (fun _ _=>rfl)
  |ice t xs=>exact RepP.mono fzF (fun _ _=>rfl) h1
  |deep m t xs q=>exact deep_mono h1 rfl rfl (fun _ _=>rfl) fun i off v c _ r=>RepA.mono (σ:=⟨σ.val,fz',σ.bs⟩) (σ':=⟨σ.val,F,σ.bs⟩) fzF (fun _ _=>rfl) v c (fun i _=>sameO_eq rfl rfl) r
 ·rcases hnew b hf with hf|hf
  ·exact co.inv.nofz o l b hb hf
  ·have:=live_lt co.inv l hb
   omega
 ·have h1:=keep_grown co.inv hg (co.keep a c r)
  exact RepA.mono (σ:=⟨σ.val,fz',σ.bs⟩) (σ':=⟨σ.val,F,σ.bs⟩) fzF (fun _ _=>rfl) a c (fun i _=>sameO_eq rfl rfl) h1
end
section
variable {E : Env} {dep : Nat}
theorem call_data {α:Type} {callI:CallI α} {κ:AV→Option α} {y:α} (hΦ:SoundΦ E) (hP:OkP E.P) (hI:CallISound E.P callI) {k:Nat} {f:Func} (hf:E.P.funcs[k]?=some f) {vw:View} {h:H} (hs:Shows vw h) {ts:List Ty} {args:List AV} {d:Dens ts} {u:Upd} (ha:coeD ts vw args=some (d,u))
  {v':AV} {rs:RS} (e:evBody E callI dep k f (avs ts d) [] [] (finC rs κ)=some y) (hκ:∀v₂,κ v₂=some y→v₂=v') (site:Nat):Callable E.P k∧CallSim E.P k args site h v' u []:=by
 refine ⟨⟨f,hf,hP.names k f hf,by obtain ⟨c,hc⟩:=body_some e;rw [hc];rfl⟩,?_⟩
 intro _ σ w cargs inv r
 obtain ⟨l,hl,hd⟩:=coeD_some ha
 obtain ⟨fz',co,r0,hn⟩:=coeArgs_sound hl hs inv r
 have r0:RepAs ⟨σ.val,fz',σ.bs⟩ [] w (avs ts d) cargs.toList:=repAs_noids (fun _ h=>h) (fun _ _=>rfl) (avs_ids _ _) (densOf_rep hd r0)
 have h2:=(body_sound hΦ hP hI hf e (σ:=⟨σ.val,fz',σ.bs⟩) (nil_inv co.inv.fzlt) r0 (vals:=[]) trivial).2
 refine h2.mono ?_
 rintro e' w' ⟨cv,σ₁,v₁,t₁,h₁,rfl,hk,hext,hinv,hrep,-⟩
 obtain ⟨v₂,hv,hk⟩:=finC_some hk
 obtain rfl:=hκ _ hk
 obtain ⟨F,f1,f2,f3,-,f4⟩:=coeRes_sound hinv hv hrep
 obtain ⟨g1,g2,g3,-⟩:=data_post inv co hext hinv f1 f2 f3
 exact ⟨cv,⟨σ.val,F,σ.bs⟩,rfl,g1,g2,f4 _ _ _,fun a c _ r=>g3 a c r⟩
theorem finRow_some {el:Nat} {k:Ty} {v:AV} {t:T} {h:H} {xs:List k.den} (e:finRow el k some v t h=some xs):(∃s0,v=.row s0∧H.get s0 h=some (.row el k xs))∨(v=.nil∧xs=[]):=by
 unfold finRow at e
 split at e
 ·rename_i s
  split at e
  ·rename_i el' k' xs' hg
   split at e
   ·rename_i hk
    subst hk
    replace e:=cond_some e
    obtain ⟨hel,e⟩:=e
    replace e:=Option.some.inj e
    subst e
    obtain rfl:=nbeq_eq.1 hel
    exact .inl ⟨s,rfl,hg⟩
   ·cases e
  ·cases e
 ·exact .inr ⟨rfl,(Option.some.inj e).symm⟩
 ·cases e
theorem call_row {el:Nat} {t:Ty} {callI:CallI (List t.den)} (hΦ:SoundΦ E) (hP:OkP E.P) (hI:CallISound E.P callI) {k:Nat} {f:Func} (hf:E.P.funcs[k]?=some f) {vw:View} {h:H} (hs:Shows vw h) {ts:List Ty} {args:List AV} {d:Dens ts} {u:Upd} (ha:coeD ts vw args=some (d,u))
  {xs:List t.den} (e:evBody E callI dep k f (avs ts d) [] [] (finRow el t some)=some xs) (site:Nat):
  Callable E.P k∧CallSim E.P k args site h (.row site) (u++[(site,some (.row el t xs))]) []:=by
 refine ⟨⟨f,hf,hP.names k f hf,by obtain ⟨c,hc⟩:=body_some e;rw [hc];rfl⟩,?_⟩
 intro hsite σ w cargs inv r
 have hsite:=hsite ⟨_,List.mem_append_right _ (List.mem_singleton.2 rfl)⟩
 obtain ⟨l,hl,hd⟩:=coeD_some ha
 obtain ⟨fz',co,r0,hn⟩:=coeArgs_sound hl hs inv r
 have r0:RepAs ⟨σ.val,fz',σ.bs⟩ [] w (avs ts d) cargs.toList:=repAs_noids (fun _ h=>h) (fun _ _=>rfl) (avs_ids _ _) (densOf_rep hd r0)
 have h2:=(body_sound hΦ hP hI hf e (σ:=⟨σ.val,fz',σ.bs⟩) (nil_inv co.inv.fzlt) r0 (vals:=[]) trivial).2
 refine h2.mono ?_
 rintro e' w' ⟨cv,σ₁,v₁,t₁,h₁,rfl,hk,hext,hinv,hrep,-⟩
 have hr:=finRow_some hk
 obtain ⟨g1,g2,g3,g4⟩:=data_post inv co hext hinv (F:=σ₁.fz) (fun _ h=>h) (fun _ h=>.inl h) hinv.fzlt
 have happ:H.apply h (u++[(site,some (.row el t xs))])=H.put site (.row el t xs) (H.apply h u):=by rw [apply_append];rfl
 have hnew:(∀b,blk cv=some b→w.heap.size≤b∧b<w'.heap.size∧¬σ₁.fz b)∧cv.oneCell'=true∧∃cs,w'.ownsRow 0 el (nCells t) cv xs.length cs∧RepPs σ₁.fz w' (xs.flatMap (enc t)) cs:=by
  rcases hr with ⟨s0,rfl,hv⟩|⟨rfl,rfl⟩
  ·have hcv:cv=σ₁.val s0:=hrep.2 (live_of hv)
   obtain ⟨cs,hown,hreps⟩:=hinv.objs _ _ hv
   refine ⟨fun b hb=>?_,hrep.1,cs,by rw [hcv];exact hown,hreps⟩
   have hmem:=hinv.mem hv rfl (by rw [←hcv];exact hb)
   refine ⟨?_,hinv.bslt s0 (own_row hv) b hmem,hinv.nofz s0 (own_row hv) b hmem⟩
   rcases hext.live s0 b (own_row hv) hmem with ⟨o',l',-⟩|hb
   ·exact (nil_own l').elim
   ·exact hb
  ·have hrep:cv=.slice none 0 0:=hrep
   subst hrep
   exact ⟨fun b hb=>(by cases hb),rfl,[],World.ownsRow_nil w' 0 el (nCells t),trivial⟩
 obtain ⟨hnew,hone,cs,hown,hreps⟩:=hnew
 have hsn:site∉H.ids (H.apply h u):=fun hi=>hsite.1 (co.ids site hi)
 obtain ⟨k1,k2⟩:=add_obj g2 hsn (.row el t xs) cv ⟨cs,by rw [Sg.set_same];exact hown,hreps⟩ (fun b hb=>⟨(hnew b hb).2.1,(hnew b hb).2.2,fun o l hb'=>by
  have h1:=live_lt co.inv l hb'
  have h2:=(hnew b hb).1
  omega⟩)
 refine ⟨cv,Sg.set ⟨σ.val,σ₁.fz,σ.bs⟩ site cv,rfl,?_,?_,?_,?_⟩
 ·show Ext σ h w _ (H.apply h (u++_)) w'
  rw [happ]
  refine ⟨g1.os,g1.tape,g1.output,g1.size,g1.fz,g1.blocks,g1.fznew,fun o b l hb=>?_⟩
  by_cases e:o=site
  ·subst e
   rw [Sg.bs_same,mem_blk] at hb
   exact .inr (hnew b hb).1
  ·rw [Sg.bs_ne _ _ e] at hb
   exact g1.live o b ((own_eq (H.get_put_ne _ e _)).1 l) hb
 ·show Inv _ (H.apply h (u++_)) w'
  rw [happ];exact k1
 ·show RepA _ (H.apply h (u++_)) w' _ _
  rw [happ]
  exact ⟨hone,fun _=>(Sg.set_same _ _ _).symm⟩
 ·intro b c hbn r
  show RepA _ (H.apply h (u++_)) w' _ _
  rw [happ]
  exact k2 b c (fun hi=>(hbn site hi).2 rfl _ (List.mem_append_right _ (List.mem_singleton.2 rfl))) (g3 b c r)
end
def EntOk (P:Program) (k:Nat) (e:List AV→View→Nat→Ans):Prop:=
 ∀(args:List AV) (vw:View) (site:Nat) (h:H) (y:(e args vw site).α),(e args vw site).x=some y→Shows vw h→
  Callable P k∧CallSim P k args site h ((e args vw site).g y).1 ((e args vw site).g y).2.1 ((e args vw site).g y).2.2
def TellsOk (P:Program) (Φ:Tells):Prop:=∀k,EntOk P k (Φ k)
theorem no_ok (P:Program):TellsOk P noTells:=fun k args vw site h y hx=>nomatch hx
theorem addT_ok {P:Program} {Φ:Tells} {k:Nat} {e:List AV→View→Nat→Ans} (h1:TellsOk P Φ) (h2:EntOk P k e):TellsOk P (addT Φ k e):=by
 intro f args vw site h
 unfold addT
 cases hb:Nat.beq f k
 ·exact h1 f args vw site h
 ·obtain rfl:=nbeq_eq.1 hb
  exact h2 args vw site h
theorem sound_of {E:Env} (h:TellsOk E.P E.Φ):SoundΦ E:=fun f args vw site hh y hx hs=>h f args vw site hh y hx hs
end Go.Proofs.YthidlhjjnaldhaaGreatDoor.Ev
