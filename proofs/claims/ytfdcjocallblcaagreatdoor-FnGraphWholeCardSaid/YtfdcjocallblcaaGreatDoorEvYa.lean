/- What functions tell, out of their bodies: functions that hand back a new row, alone or in a struct. Conditions as in the text before. -/
import Derived.Test.YtfdcjocallblcaaGreatDoorEvY
namespace Go.Proofs.YtfdcjocallblcaaGreatDoor.Ev
open Go
theorem splitLast_some:∀{l:List AV} {a:List AV} {x:AV},splitLast l=some (a,x)→l=a++[x]
 |[],_,_,e=>by cases e
 |[v],a,x,e=>by
  obtain ⟨rfl,rfl⟩:=Prod.mk.inj (Option.some.inj e)
  rfl
 |v::w::r,a,x,e=>by
  simp only [splitLast] at e
  split at e
  ·rename_i l y h
   obtain ⟨rfl,rfl⟩:=Prod.mk.inj (Option.some.inj e)
   rw [splitLast_some h];rfl
  ·cases e
theorem flatD_rep {σ σ':Sg} {h h':H} {w w':World}:∀{ts:List Ty} {d:Dens ts} {cs:List Value},ts.all flatT=true→RepAs σ h w (avs ts d) cs→RepAs σ' h' w' (avs ts d) cs
 |[],_,[],_,_=>trivial
 |t::ts,d,c::cs,hf,r=>by
  simp only [List.all_cons,Bool.and_eq_true] at hf
  exact ⟨(flat1_rep (v:=.tv t d.1) hf.1 r.1).1,flatD_rep hf.2 r.2⟩
 |[],_,_::_,_,r=>r.elim
 |_::_,_,[],_,r=>r.elim
theorem rn_rep {σ:Sg} {h:H} {w:World} {site:Nat}:∀{rn:RN} {v:AV} {cv:Value} {d:rn.Den} {x:AV},rn.ok=true→RN.read rn v=some (d,x)→RepA σ h w v cv→
  ∃c,RepA σ h w x c∧∀(σ':Sg) (h':H) (w':World),RepA σ' h' w' (.row site) c→RepA σ' h' w' (RN.av site rn d) cv
 |.row,v,cv,d,x,_,e,r=>by
  obtain ⟨-,rfl⟩:=Prod.mk.inj (Option.some.inj e)
  exact ⟨cv,r,fun _ _ _ k=>k⟩
 |.agg ts,v,cv,d,x,hok,e,r=>by
  simp only [RN.read] at e
  split at e
  ·rename_i cs
   split at e
   ·rename_i l y hl
    split at e
    ·rename_i d' hd
     obtain ⟨rfl,rfl⟩:=Prod.mk.inj (Option.some.inj e)
     obtain ⟨vs,hv,hr⟩:=r
     rw [splitLast_some hl] at hr
     have hlen:=hr.length
     obtain ⟨ini,c,hvs⟩:∃ini c,vs.toList=ini++[c]:=by
      have hne:vs.toList≠[]:=fun e=>by rw [e] at hlen;simp at hlen
      exact ⟨vs.toList.dropLast,vs.toList.getLast hne,(List.dropLast_concat_getLast hne).symm⟩
     rw [hvs] at hr hlen
     have hl2:l.length=ini.length:=by simp at hlen;exact hlen
     have h1:=hr.take l.length
     have h2:=hr.drop l.length
     rw [List.take_left,hl2,List.take_left] at h1
     rw [List.drop_left,hl2,List.drop_left] at h2
     refine ⟨c,h2.1,fun σ' h' w' k=>⟨vs,hv,?_⟩⟩
     rw [hvs]
     exact (flatD_rep hok (densOf_rep hd h1)).append ⟨k,trivial⟩
    ·cases e
   ·cases e
  ·cases e
 |.tup rn ts,v,cv,d,x,hok,e,r=>by
  simp only [RN.ok,Bool.and_eq_true] at hok
  simp only [RN.read] at e
  split at e
  ·rename_i v0 l
   split at e
   ·rename_i d0 y hd0
    split at e
    ·rename_i d' hd
     obtain ⟨rfl,rfl⟩:=Prod.mk.inj (Option.some.inj e)
     obtain ⟨vs,hv,hr⟩:=r
     match hvs:vs.toList,hr with
     |c0::cs,hr=>
      obtain ⟨c,q1,q2⟩:=rn_rep (site:=site) hok.1 hd0 hr.1
      refine ⟨c,q1,fun σ' h' w' k=>⟨vs,hv,?_⟩⟩
      rw [hvs]
      exact ⟨q2 _ _ _ k,flatD_rep hok.2 (densOf_rep hd hr.2)⟩
    ·cases e
   ·cases e
  ·cases e
theorem newElems_rep {σ:Sg} {h:H} {w:World} (inv:Inv σ h w) {q:Option Nat} {el:Nat} {k:Ty} {x:AV} {xs:List k.den} {c:Value} (e:newElems q el k h x=some xs) (r:RepA σ h w x c):
  ∃bs:List Nat,(∀b∈bs,∃o,Own h o∧b∈σ.bs o)∧(∀b∈bs,¬σ.fz b)∧c.oneCell'=true∧((mkO q el k xs).isDeep=false→bs=(blk c).toList)∧
   ∀(σ':Sg) (h':H) (o':Nat),σ'.val o'=c→σ'.bs o'=bs→ObjRep σ' h' w o' (mkO q el k xs):=by
 unfold newElems at e
 split at e
 ·obtain rfl:=Option.some.inj e
  have r:c=.slice none 0 0:=r
  subst r
  exact ⟨[],by simp,by simp,rfl,fun _=>rfl,fun σ' h' o' hv hb=>mkO_rep q el k hv hb⟩
 ·rename_i s
  split at e
  ·rename_i el' k' ys hg
   split at e
   ·split at e
    ·rename_i hk
     subst hk
     obtain ⟨hb,e2⟩:=cond_some e
     clear e
     obtain rfl:=Option.some.inj e2
     simp only [Bool.and_eq_true,Bool.not_eq_true'] at hb
     obtain ⟨hb1,hm⟩:=hb
     obtain rfl:=nbeq_eq.1 hb1
     have hc:=r.2 (live_of hg)
     subst hc
     refine ⟨σ.bs s,fun b hb=>⟨s,own_row hg,hb⟩,fun b hb=>inv.nofz s (own_row hg) b hb,r.1,fun _=>inv.bsok s _ hg rfl,fun σ' h' o' hv hb=>?_⟩
     obtain ⟨cs,q1,q2⟩:=inv.objs _ _ hg
     refine ⟨cs,by rw [hv];exact q1,RepPs.mk q2.length fun i p u hp hu=>?_⟩
     obtain ⟨y,-,hy⟩:=List.mem_flatMap.1 (List.mem_of_getElem? hp)
     exact (RepP.own (m:=0) (t:=.bool) (q2.at i p u hp hu) (enc_flat hm y p hy)).frozen fun b hb=>by cases hb
    ·cases e
   ·cases e
  ·rename_i m' k' ys hg
   split at e
   ·split at e
    ·rename_i hk
     subst hk
     obtain ⟨hb,e2⟩:=cond_some e
     clear e
     obtain rfl:=Option.some.inj e2
     obtain rfl:=nbeq_eq.1 hb
     have hc:=r.2 (live_of hg)
     subst hc
     refine ⟨σ.bs s,fun b hb=>⟨s,own_deep hg,hb⟩,fun b hb=>inv.nofz s (own_deep hg) b hb,r.1,fun d=>(by cases d),fun σ' h' o' hv hb=>?_⟩
     obtain ⟨cs,bss,h1,h2,h3,h4,h5,h6⟩:=inv.objs _ _ hg
     exact ⟨cs,bss,by rw [hv];exact h1,h2,fun p pv c bs hp hc hb'=>h3 p pv c bs hp hc hb',by rw [hb,hv];exact h4,by rw [hb];exact h5,h6⟩
    ·cases e
   ·cases e
  ·cases e
 ·cases e
theorem finN_some {R:Type} {rn:RN} {q:Option Nat} {el:Nat} {k:Ty} {κ:rn.Den→List k.den→Option R} {v:AV} {t:T} {h:H} {r:R} (e:finN rn q el k κ v t h=some r):
  ∃d x xs,RN.read rn v=some (d,x)∧newElems q el k h x=some xs∧κ d xs=some r:=by
 unfold finN at e
 split at e
 ·rename_i d x hd
  split at e
  ·rename_i xs hxs
   exact ⟨d,x,xs,hd,hxs,e⟩
  ·cases e
 ·cases e
section
variable {E : Env} {dep : Nat}
theorem call_ron {rn:RN} {q:Option Nat} {el:Nat} {ty:Ty} {α:Type} {callI:CallI α} {κ:rn.Den→List ty.den→Option α} {y:α} (hΦ:SoundΦ E) (hP:OkP E.P) (hI:CallISound E.P callI) {k:Nat} {f:Func} (hf:E.P.funcs[k]?=some f) {vw:View} {h:H} (hs:Shows vw h) {ts:List Ty} {args:List AV} {d:Dens ts} (ha:roD ts vw args=some d)
  {d1:rn.Den} {xs:List ty.den} (e:evBody E callI dep k f (avs ts d) [] [] (finN rn q el ty κ)=some y) (hκ:∀d₂ x₂,κ d₂ x₂=some y→d₂=d1∧x₂=xs) (hok:rn.ok=true) (site:Nat):
  Callable E.P k∧CallSim E.P k args site h (RN.av site rn d1) [(site,some (mkO q el ty xs))] []:=by
 refine ⟨⟨f,hf,hP.names k f hf,by obtain ⟨c,hc⟩:=body_some e;rw [hc];rfl⟩,?_⟩
 intro hsite σ w cargs inv r
 have hsite1:=hsite ⟨_,List.mem_singleton.2 rfl⟩
 obtain ⟨l,hl,hd⟩:=roD_some ha
 obtain ⟨r0,hn⟩:=roArgs_rep hs inv hl r
 replace r0:=densOf_rep hd r0
 have h2:=(body_sound hΦ hP hI hf e (σ:=⟨σ.val,allFz σ h,σ.bs⟩) (nil_inv (allFz_lt inv)) r0 (vals:=[]) trivial).2
 refine h2.mono ?_
 rintro e' w' ⟨cv,σ₁,v₁,t₁,h₁,rfl,hk,hext,hinv,hrep,-⟩
 obtain ⟨d2,x,ys,hd2,hxs,hk⟩:=finN_some hk
 obtain ⟨rfl,rfl⟩:=hκ _ _ hk
 have hg:=grown_of_ext hext
 obtain ⟨c,hc,hback⟩:=rn_rep (h:=h₁) (w:=w') (site:=site) hok hd2 hrep
 obtain ⟨bs,b1,b2,b3,b4,b5⟩:=newElems_rep hinv hxs hc
 have hnew:∀b∈bs,w.heap.size≤b∧b<w'.heap.size:=fun b hb=>by
  obtain ⟨o,l,hb'⟩:=b1 b hb
  refine ⟨?_,hinv.bslt o l b hb'⟩
  rcases hext.live o b l hb' with ⟨o',l',-⟩|hb
  ·exact (nil_own l').elim
  ·exact hb
 obtain ⟨e1,e2,e3⟩:=new_objB inv hsite1.1 (mkO q el ty ys) c bs hg hnew b4 (b5 _ _ _ (Sg.setB_same _ _ _ _) (Sg.bsB_same _ _ _ _))
 exact ⟨cv,σ.setB site c bs,rfl,e1,e2,hback _ _ _ ⟨b3,fun _=>(Sg.setB_same _ _ _ _).symm⟩,fun a c hbn r=>e3 a c (fun hi=>(hbn site hi).2 rfl _ (List.mem_singleton.2 rfl)) r⟩
theorem call_ronF {rn:RN} {q:Option Nat} {el:Nat} {ty:Ty} {α:Type} {callI:CallI α} {κ:rn.Den→List ty.den→Option α} {y:α} (hΦ:SoundΦ E) (hP:OkP E.P) (hI:CallISound E.P callI) {k:Nat} {f:Func} (hf:E.P.funcs[k]?=some f) {vw:View} {h:H} (hs:Shows vw h) {ss:List Sh} {args:List AV} {d:Shs.den ss} (ha:shD ss vw args=some d)
  {d1:rn.Den} {xs:List ty.den} (e:evBody E callI dep k f (shAVs ss d) [] [] (finN rn q el ty κ)=some y) (hκ:∀d₂ x₂,κ d₂ x₂=some y→d₂=d1∧x₂=xs) (hok:rn.ok=true) (site:Nat):
  Callable E.P k∧CallSim E.P k args site h (RN.av site rn d1) [(site,some (mkO q el ty xs))] []:=by
 refine ⟨⟨f,hf,hP.names k f hf,by obtain ⟨c,hc⟩:=body_some e;rw [hc];rfl⟩,?_⟩
 intro hsite σ w cargs inv r
 have hsite1:=hsite ⟨_,List.mem_singleton.2 rfl⟩
 unfold shD at ha
 split at ha
 ·rename_i l hl
  obtain ⟨r0,hn⟩:=roL_rep hs inv args l cargs.toList hl r
  replace r0:=shsOf_rep ss l d cargs.toList ha hn r0
  have h2:=(body_sound hΦ hP hI hf e (σ:=⟨σ.val,allFz σ h,σ.bs⟩) (nil_inv (allFz_lt inv)) r0 (vals:=[]) trivial).2
  refine h2.mono ?_
  rintro e' w' ⟨cv,σ₁,v₁,t₁,h₁,rfl,hk,hext,hinv,hrep,-⟩
  obtain ⟨d2,x,ys,hd2,hxs,hk⟩:=finN_some hk
  obtain ⟨rfl,rfl⟩:=hκ _ _ hk
  have hg:=grown_of_ext hext
  obtain ⟨c,hc,hback⟩:=rn_rep (h:=h₁) (w:=w') (site:=site) hok hd2 hrep
  obtain ⟨bs,b1,b2,b3,b4,b5⟩:=newElems_rep hinv hxs hc
  have hnew:∀b∈bs,w.heap.size≤b∧b<w'.heap.size:=fun b hb=>by
   obtain ⟨o,l,hb'⟩:=b1 b hb
   refine ⟨?_,hinv.bslt o l b hb'⟩
   rcases hext.live o b l hb' with ⟨o',l',-⟩|hb
   ·exact (nil_own l').elim
   ·exact hb
  obtain ⟨e1,e2,e3⟩:=new_objB inv hsite1.1 (mkO q el ty ys) c bs hg hnew b4 (b5 _ _ _ (Sg.setB_same _ _ _ _) (Sg.bsB_same _ _ _ _))
  exact ⟨cv,σ.setB site c bs,rfl,e1,e2,hback _ _ _ ⟨b3,fun _=>(Sg.setB_same _ _ _ _).symm⟩,fun a c hbn r=>e3 a c (fun hi=>(hbn site hi).2 rfl _ (List.mem_singleton.2 rfl)) r⟩
 ·cases ha
end
def entRo (ts:List Ty) (rs:RS) (F:Dens ts→Option rs.den) (args:List AV) (vw:View) (_:Nat):Ans:=match roD ts vw args with
 |some d=>⟨rs.den,F d,fun y=>(mkR rs y,[],[])⟩
 |none=>Ans.no
def entDa (ts:List Ty) (rs:RS) (F:Dens ts→Option rs.den) (args:List AV) (vw:View) (_:Nat):Ans:=match coeD ts vw args with
 |some (d,u)=>⟨rs.den,F d,fun y=>(mkR rs y,u,[])⟩
 |none=>Ans.no
def entDf (ss:List Sh) (rs:RS) (F:Shs.den ss→Option rs.den) (args:List AV) (vw:View) (_:Nat):Option Ans:=match shsC ss vw args with
 |some (d,u)=>some ⟨rs.den,F d,fun y=>(mkR rs y,u,[])⟩
 |none=>none
section
variable {E : Env} {dep : Nat} {rs : RS} {callI : CallI rs.den} {k : Nat} {f : Func} {ts : List Ty} {ss : List Sh}
theorem entRo_ok {F:Dens ts→Option rs.den} (hΦ:SoundΦ E) (hP:OkP E.P) (hI:CallISound E.P callI) (hf:E.P.funcs[k]?=some f) (hv:flatRS rs=true) (e:∀d y,F d=some y→evBody E callI dep k f (avs ts d) [] [] (finC rs (unR rs))=some y):EntOk E.P k (entRo ts rs F):=by
 intro args vw site h
 unfold entRo
 split
 ·rename_i d ha
  intro y hy hs
  exact call_ro hΦ hP hI hf hs ha (e d y hy) (fun _ h=>unR_some h) hv site
 ·intro y hy;cases hy
theorem entDa_ok {F:Dens ts→Option rs.den} (hΦ:SoundΦ E) (hP:OkP E.P) (hI:CallISound E.P callI) (hf:E.P.funcs[k]?=some f) (e:∀d y,F d=some y→evBody E callI dep k f (avs ts d) [] [] (finC rs (unR rs))=some y):EntOk E.P k (entDa ts rs F):=by
 intro args vw site h
 unfold entDa
 split
 ·rename_i d u ha
  intro y hy hs
  exact call_data hΦ hP hI hf hs ha (e d y hy) (fun _ h=>unR_some h) site
 ·intro y hy;cases hy
theorem entDf_ok {F:Shs.den ss→Option rs.den} (hΦ:SoundΦ E) (hP:OkP E.P) (hI:CallISound E.P callI) (hf:E.P.funcs[k]?=some f) (e:∀d y,F d=some y→evBody E callI dep k f (shAVs ss d) [] [] (finC rs (unR rs))=some y):EntOkO E.P k (entDf ss rs F):=by
 intro args vw site h a ha
 unfold entDf at ha
 split at ha
 ·rename_i d u hd
  obtain rfl:=Option.some.inj ha
  intro y hy hs
  exact call_dof hΦ hP hI hf hs hd (e d y hy) (fun _ h=>unR_some h) site
 ·cases ha
end
section
variable {P : Program} {k : Nat} {rs : RS} {ts : List Ty} {ss : List Sh}
theorem entRo_no {F:Dens ts→Option rs.den} (e:∀d,F d=none):EntOk P k (entRo ts rs F):=by
 intro args vw site h
 unfold entRo
 split
 ·intro y hy;cases (e _).symm.trans hy
 ·intro y hy;cases hy
theorem entDa_no {F:Dens ts→Option rs.den} (e:∀d,F d=none):EntOk P k (entDa ts rs F):=by
 intro args vw site h
 unfold entDa
 split
 ·intro y hy;cases (e _).symm.trans hy
 ·intro y hy;cases hy
end
abbrev KX (R:Type):=Ex→T→H→Option R
abbrev KT (R:Type):=T→H→Option R
abbrev LM:=List Move
abbrev LLM:=List (List Move)
abbrev LI:=List Int
abbrev LLI:=List (List Int)
abbrev LB:=List Bool
abbrev LLB:=List (List Bool)
abbrev LT:=List Tree
abbrev LY:=List ByteArray
end Go.Proofs.YtfdcjocallblcaaGreatDoor.Ev
