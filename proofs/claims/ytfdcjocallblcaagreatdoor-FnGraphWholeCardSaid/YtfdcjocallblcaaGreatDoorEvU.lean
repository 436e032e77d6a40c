/- What functions tell, out of their bodies: functions that write nothing, and functions of data. Conditions as in the text before. -/
import Derived.Test.YtfdcjocallblcaaGreatDoorEvT
namespace Go.Proofs.YtfdcjocallblcaaGreatDoor.Ev
open Go
section
variable {σ : Sg} {h : H} {w w' : World}
theorem inv_grown (inv:Inv σ h w) (hg:w.grownBy w' none):Inv σ h w' where
 objs o x g:=by
  have h1:=inv.objs o x g
  have fzh:∀b,σ.fz b→w'.heap[b]?=w.heap[b]?:=fun b hb=>hg.block b (inv.fzlt b hb) (by simp)
  cases x with
  |box cs=>
   obtain ⟨b,vs,ty,h2,h3,h4⟩:=h1
   exact ⟨b,vs,ty,h2,by rw [hg.block b (Array.getElem?_eq_some_iff.1 h3).1 (by simp)];exact h3,RepAs.mono (fun _ h=>h) fzh _ _ (fun i _=>sameO_eq rfl rfl) h4⟩
  |row el t xs=>
   obtain ⟨cs,h2,h3⟩:=h1
   refine ⟨cs,h2.kept hg ?_,RepPs.mono (fun _ h=>h) fzh h3⟩
   cases (σ.val o).ownBlock with
   |none=>exact .inl rfl
   |some b=>exact .inr (by simp)
  |map _ _ _=>exact map_mono h1 rfl (fun _ h=>h) fzh fun b hb=>hg.block b (inv.bslt o ⟨_,g,rfl⟩ b (inv.mem g rfl hb)) (by simp)
  |cel _ _=>exact cel_mono h1 rfl (fun _ h=>h) fzh
  |ice t xs=>exact RepP.mono (fun _ h=>h) fzh h1
  |deep m t xs q=>exact deep_mono h1 rfl rfl (fun b hb=>hg.block b (inv.bslt o (own_deep g) b hb) (by simp)) fun i off v c _ r=>RepA.mono (fun _ h=>h) fzh v c (fun i _=>sameO_eq rfl rfl) r
 nofz:=inv.nofz
 inj:=inv.inj
 fzlt b hb:=Nat.lt_of_lt_of_le (inv.fzlt b hb) hg.size
 nodup:=inv.nodup
 bsok:=inv.bsok
 bslt o l b hb:=Nat.lt_of_lt_of_le (inv.bslt o l b hb) hg.size
theorem ext_grown (hg:w.grownBy w' none):Ext σ h w σ h w':=
 ⟨hg.os,hg.tape,hg.output,hg.size,fun _ h=>h,fun b hb _=>hg.block b hb (by simp),fun _ h=>.inl h,fun o b l e=>.inl ⟨o,l,e⟩⟩
theorem keep_grown (inv:Inv σ h w) (hg:w.grownBy w' none) {a:AV} {c:Value} (r:RepA σ h w a c):RepA σ h w' a c:=
 RepA.mono (fun _ h=>h) (fun b hb=>hg.block b (inv.fzlt b hb) (by simp)) a c (fun i _=>sameO_eq rfl rfl) r
theorem repA_noids {σ σ':Sg} {h h':H} {w w':World} (h1:∀b,σ.fz b→σ'.fz b) (h2:∀b,σ.fz b→w'.heap[b]?=w.heap[b]?) {a:AV} {c:Value} (hn:a.ids=[]) (r:RepA σ h w a c):RepA σ' h' w' a c:=
 RepA.mono h1 h2 a c (fun o ho=>by rw [hn] at ho;cases ho) r
theorem repAs_noids {σ σ':Sg} {h h':H} {w w':World} (h1:∀b,σ.fz b→σ'.fz b) (h2:∀b,σ.fz b→w'.heap[b]?=w.heap[b]?) {a:List AV} {c:List Value} (hn:AV.idsL a=[]) (r:RepAs σ h w a c):RepAs σ' h' w' a c:=
 RepAs.mono h1 h2 a c (fun o ho=>by rw [hn] at ho;cases ho) r
theorem nil_own {o:Nat} (l:Own [] o):False:=by obtain ⟨x,g,-⟩:=l;cases g
theorem nil_inv {fz:Nat→Prop} (hlt:∀b,fz b→b<w.heap.size):Inv ⟨σ.val,fz,σ.bs⟩ [] w:=
 ⟨fun o x g=>(by cases g),fun o l=>(nil_own l).elim,fun o o' l=>(nil_own l).elim,hlt,List.nodup_nil,fun o x g=>(by cases g),fun o l=>(nil_own l).elim⟩
theorem grown_of_ext {σ σ':Sg} {h':H} (e:Ext σ [] w σ' h' w'):w.grownBy w' none:=
 ⟨e.os,e.tape,e.output,e.size,fun b hb _=>e.blocks b hb fun _ l=>(nil_own l).elim⟩
def allFz (σ:Sg) (h:H):Nat→Prop:=fun b=>σ.fz b∨∃o,Own h o∧b∈σ.bs o
theorem allFz_lt (inv:Inv σ h w):∀b,allFz σ h b→b<w.heap.size:=by
 rintro b (hb|⟨o,l,e⟩)
 ·exact inv.fzlt b hb
 ·exact live_lt inv l e
theorem roCell_rep {vw:View} (hs:Shows vw h) (inv:Inv σ h w) {a a0:AV} {c:Value} (e:roCell vw a=some a0) (r:RepA σ h w a c):RepA ⟨σ.val,allFz σ h,σ.bs⟩ [] w a0 c∧a0.ids=[]:=by
 unfold roCell at e
 split at e
 ·obtain rfl:=Option.some.inj e
  exact ⟨repA_noids (σ:=σ) (σ':=⟨σ.val,allFz σ h,σ.bs⟩) (fun _ hb=>Or.inl hb) (fun _ _=>rfl) rfl r,rfl⟩
 ·obtain rfl:=Option.some.inj e
  exact ⟨r,rfl⟩
 ·rename_i o
  split at e
  ·rename_i el t xs hg
   obtain rfl:=Option.some.inj e
   have hgg:=hs _ _ hg
   refine ⟨?_,rfl⟩
   rw [r.2 (live_of hgg)]
   exact ⟨frozen inv hgg (fun _ h=>.inl h) (fun b hb=>.inr ⟨o,own_row hgg,inv.mem hgg rfl hb⟩),trivial⟩
  ·rename_i t xs hg
   obtain rfl:=Option.some.inj e
   have hgg:=hs _ _ hg
   refine ⟨?_,rfl⟩
   rw [r.2 (live_of hgg)]
   exact ⟨RepP.mono (fun _ h=>.inl h) (fun _ _=>rfl) (inv.objs _ _ hgg),trivial⟩
  ·rename_i m t xs hg
   obtain rfl:=Option.some.inj e
   have hgg:=hs _ _ hg
   refine ⟨?_,rfl⟩
   rw [r.2 (live_of hgg)]
   exact ⟨frozenD inv hgg fun b hb=>.inr ⟨o,own_deep hgg,hb⟩,trivial⟩
  ·cases e
 ·cases e
theorem impOf_some {off:Nat} {x:Option AV} {a0:AV} (e:impOf off x=some a0):∃t y,x=some (.tv t y)∧isSt t=false∧a0=.imp t y off:=by
 unfold impOf at e
 split at e
 ·rename_i t y
  replace e:=cond_none e
  obtain ⟨h1,e⟩:=e
  obtain rfl:=Option.some.inj e
  exact ⟨t,y,rfl,h1,rfl⟩
 ·cases e
theorem fnOf_some {vw:View} {off:Nat} {c a0:AV} (e:fnOf vw off c=some a0):(∃f cs cs',c=.fn f cs∧off=0∧roL0 vw cs=some cs'∧a0=.imf f cs')∨impOf off (roCell vw c)=some a0:=by
 unfold fnOf at e
 split at e
 ·rename_i f cs
  obtain ⟨hb,e⟩:=cond_some e
  split at e
  ·rename_i cs' hcs
   obtain rfl:=Option.some.inj e
   exact .inl ⟨f,cs,cs',rfl,nbeq_eq.1 hb,hcs,rfl⟩
  ·cases e
 ·exact .inr e
theorem box_rep {vw:View} (hs:Shows vw h) (inv:Inv σ h w) {o off:Nat} {cell a0:AV} {c:Value} (hg:vw o=some (.box [cell])) (e:impOf off (roCell vw cell)=some a0) (r:RepA σ h w (.ptr o off) c):RepA ⟨σ.val,allFz σ h,σ.bs⟩ [] w a0 c∧a0.ids=[]:=by
 have hgg:=hs _ _ hg
 obtain ⟨b,hb,hc⟩:=r.2 (live_of hgg)
 obtain ⟨b',vs,ty,hb',hh,hr⟩:=inv.objs _ _ hgg
 rw [hb] at hb'
 obtain rfl:b=b':=by simpa using hb'
 obtain ⟨t,x,hx,hst,rfl⟩:=impOf_some e
 refine ⟨⟨b,0,by rw [Nat.zero_add];exact hc,.inr ⟨o,own_box hgg,inv.mem hgg rfl (by rw [hb];rfl)⟩,vs.toList,?_,fun j c hj=>?_⟩,rfl⟩
 ·have hlen:=hr.len
  obtain ⟨v,hv⟩:∃v,vs.toList=[v]:=by
   match hvs:vs.toList,hlen with
   |[v],_=>exact ⟨v,rfl⟩
  rw [hv] at hr⊢
  have:=(roCell_rep hs inv hx hr.1).1
  cases t with
  |st i=>cases hst
  |_=>exact this
 ·rw [Nat.zero_add]
  rw [Array.getElem?_toList] at hj
  simp [World.cell?,hh,hj]
theorem ro0_rep {vw:View} (hs:Shows vw h) (inv:Inv σ h w) {a a0:AV} {c:Value} (e:ro0 vw a=some a0) (r:RepA σ h w a c):RepA ⟨σ.val,allFz σ h,σ.bs⟩ [] w a0 c∧a0.ids=[]:=by
 unfold ro0 at e
 split at e
 ·obtain rfl:=Option.some.inj e
  exact ⟨repA_noids (σ:=σ) (σ':=⟨σ.val,allFz σ h,σ.bs⟩) (fun _ hb=>Or.inl hb) (fun _ _=>rfl) rfl r,rfl⟩
 ·split at e
  ·rename_i hg
   exact box_rep hs inv hg e r
  ·cases e
 ·exact roCell_rep hs inv e r
theorem roL0_rep {vw:View} (hs:Shows vw h) (inv:Inv σ h w):∀(l l':List AV) (cs:List Value),roL0 vw l=some l'→RepAs σ h w l cs→RepAs ⟨σ.val,allFz σ h,σ.bs⟩ [] w l' cs∧AV.idsL l'=[]
 |[],l',cs,e,r=>by
  obtain rfl:=Option.some.inj e
  match cs,r with
  |[],_=>exact ⟨trivial,rfl⟩
 |v::l,l',cs,e,r=>by
  simp only [roL0] at e
  split at e
  ·rename_i v' hv
   split at e
   ·rename_i r' hr
    obtain rfl:=Option.some.inj e
    match cs,r with
    |c::cs,r=>
     obtain ⟨k1,k2⟩:=ro0_rep hs inv hv r.1
     obtain ⟨k3,k4⟩:=roL0_rep hs inv l r' cs hr r.2
     exact ⟨⟨k1,k3⟩,by simp [AV.idsL,k2,k4]⟩
   ·cases e
  ·cases e
theorem impSt_some {off:Nat} {x:Option (List AV)} {a0:AV} (e:impSt off x=some a0):∃(cs:List AV) (i:Nat) (y:stDen i),x=some cs∧mkSt i cs=some y∧a0=.imp (.st i) y off:=by
 unfold impSt at e
 split at e
 ·rename_i cs
  split at e
  ·rename_i y hy
   exact ⟨cs,0,y,rfl,hy,(Option.some.inj e).symm⟩
  ·split at e
   ·rename_i y hy
    exact ⟨cs,1,y,rfl,hy,(Option.some.inj e).symm⟩
   ·split at e
    ·rename_i y hy
     exact ⟨cs,3,y,rfl,hy,(Option.some.inj e).symm⟩
    ·cases e
 ·cases e
mutual
theorem ro_rep {vw:View} (hs:Shows vw h) (inv:Inv σ h w):∀(a a0:AV) (c:Value),ro vw a=some a0→RepA σ h w a c→RepA ⟨σ.val,allFz σ h,σ.bs⟩ [] w a0 c∧a0.ids=[]
 |.ptr o off,a0,c,e,r=>by
  simp only [ro] at e
  split at e
  ·rename_i cell hg
   have hgg:=hs _ _ hg
   obtain ⟨b,hb,hc⟩:=r.2 (live_of hgg)
   obtain ⟨b',vs,ty,hb',hh,hr⟩:=inv.objs _ _ hgg
   rw [hb] at hb'
   obtain rfl:b=b':=by simpa using hb'
   rcases fnOf_some e with ⟨f,cs,cs',rfl,rfl,hcs,rfl⟩|e
   ·match hvs:vs.toList,hr with
    |[v],hr=>
     obtain ⟨cv,hv,hcv⟩:=hr.1
     obtain ⟨k1,k2⟩:=roL0_rep hs inv cs cs' _ hcs hcv
     refine ⟨⟨b,0,cv,hc,.inr ⟨o,own_box hgg,inv.mem hgg rfl (by rw [hb];rfl)⟩,?_,k1⟩,k2⟩
     rw [cell_of_row w b 0 vs ty (0,0) hh,←Array.getElem?_toList,hvs,←hv];rfl
    |[],hr=>exact hr.elim
    |_::_::_,hr=>exact hr.2.elim
   obtain ⟨t,x,hx,hst,rfl⟩:=impOf_some e
   refine ⟨⟨b,0,by rw [Nat.zero_add];exact hc,.inr ⟨o,own_box hgg,inv.mem hgg rfl (by rw [hb];rfl)⟩,vs.toList,?_,fun j c hj=>?_⟩,rfl⟩
   ·have hlen:=hr.len
    obtain ⟨v,hv⟩:∃v,vs.toList=[v]:=by
     match hvs:vs.toList,hlen with
     |[v],_=>exact ⟨v,rfl⟩
    rw [hv] at hr⊢
    have:=(roCell_rep hs inv hx hr.1).1
    cases t with
    |st i=>cases hst
    |_=>exact this
   ·rw [Nat.zero_add]
    rw [Array.getElem?_toList] at hj
    simp [World.cell?,hh,hj]
  ·rename_i c1 c2 cr hg
   have hgg:=hs _ _ hg
   obtain ⟨b,hb,hc⟩:=r.2 (live_of hgg)
   obtain ⟨b',vs,ty,hb',hh,hr⟩:=inv.objs _ _ hgg
   rw [hb] at hb'
   obtain rfl:b=b':=by simpa using hb'
   obtain ⟨cs,i,y,hcs,hy,rfl⟩:=impSt_some e
   obtain ⟨k1,k2⟩:=roL0_rep hs inv _ cs _ hcs hr
   refine ⟨⟨b,0,by rw [Nat.zero_add];exact hc,.inr ⟨o,own_box hgg,inv.mem hgg rfl (by rw [hb];rfl)⟩,vs.toList,mkSt_rep hy k1,fun j c hj=>?_⟩,rfl⟩
   rw [Nat.zero_add]
   rw [Array.getElem?_toList] at hj
   simp [World.cell?,hh,hj]
  ·rename_i t x hg
   obtain ⟨hst,e⟩:=cond_none e
   obtain rfl:=Option.some.inj e
   have hgg:=hs _ _ hg
   exact ⟨repA_noids (σ:=σ) (σ':=⟨σ.val,allFz σ h,σ.bs⟩) (fun _ hb=>Or.inl hb) (fun _ _=>rfl) rfl (cel_imp (off:=off) (inv.objs _ _ hgg) (r.2 (live_of hgg))),rfl⟩
  ·cases e
 |.imp t x off,a0,c,e,r=>by
  simp only [ro] at e
  obtain rfl:=Option.some.inj e
  exact ⟨repA_noids (σ:=σ) (σ':=⟨σ.val,allFz σ h,σ.bs⟩) (fun _ hb=>Or.inl hb) (fun _ _=>rfl) rfl r,rfl⟩
 |.fn f cs,a0,c,e,r=>by
  simp only [ro] at e
  split at e
  ·rename_i cs' hcs
   obtain rfl:=Option.some.inj e
   obtain ⟨cv,hv,hc⟩:=r
   obtain ⟨h1,h2⟩:=roL_rep hs inv cs cs' _ hcs hc
   exact ⟨⟨cv,hv,h1⟩,h2⟩
  ·cases e
 |.imf f cs,a0,c,e,r=>by
  simp only [ro] at e
  split at e
  ·rename_i cs' hcs
   obtain rfl:=Option.some.inj e
   obtain ⟨b,o0,cv,hv,hf,hw,hc⟩:=r
   obtain ⟨h1,h2⟩:=roL_rep hs inv cs cs' _ hcs hc
   exact ⟨⟨b,o0,cv,hv,.inl hf,hw,h1⟩,h2⟩
  ·cases e
 |.agg cs,a0,c,e,r=>by
  simp only [ro] at e
  split at e
  ·rename_i cs' hcs
   obtain rfl:=Option.some.inj e
   obtain ⟨cv,hv,hc⟩:=r
   obtain ⟨h1,h2⟩:=roL_rep hs inv cs cs' _ hcs hc
   exact ⟨⟨cv,hv,h1⟩,h2⟩
  ·cases e
 |.any,_,_,e,r=>by simp only [ro] at e;exact roCell_rep hs inv e r
 |.und,_,_,e,r=>by simp only [ro] at e;exact roCell_rep hs inv e r
 |.nil,_,_,e,r=>by simp only [ro] at e;exact roCell_rep hs inv e r
 |.tv _ _,_,_,e,r=>by simp only [ro] at e;exact roCell_rep hs inv e r
 |.pel _ _ _,_,_,e,r=>by simp only [ro] at e;exact roCell_rep hs inv e r
 |.row _,_,_,e,r=>by simp only [ro] at e;exact roCell_rep hs inv e r
 |.sub _ _ _,_,_,e,r=>by simp only [ro] at e;exact roCell_rep hs inv e r
 |.mp _,_,_,e,r=>by simp only [ro] at e;exact roCell_rep hs inv e r
 |.tup _,_,_,e,r=>by simp only [ro] at e;exact roCell_rep hs inv e r
theorem roL_rep {vw:View} (hs:Shows vw h) (inv:Inv σ h w):∀(a a0:List AV) (c:List Value),roL vw a=some a0→RepAs σ h w a c→RepAs ⟨σ.val,allFz σ h,σ.bs⟩ [] w a0 c∧AV.idsL a0=[]
 |[],a0,[],e,r=>by simp only [roL] at e;obtain rfl:=Option.some.inj e;exact ⟨trivial,rfl⟩
 |v::l,a0,c::cs,e,r=>by
  simp only [roL] at e
  split at e
  ·rename_i v' hv
   split at e
   ·rename_i r' hr
    obtain rfl:=Option.some.inj e
    obtain ⟨h1,h2⟩:=ro_rep hs inv v v' c hv r.1
    obtain ⟨h3,h4⟩:=roL_rep hs inv l r' cs hr r.2
    exact ⟨⟨h1,h3⟩,by simp [AV.idsL,h2,h4]⟩
   ·cases e
  ·cases e
 |[],_,_::_,_,r=>r.elim
 |_::_,_,[],_,r=>r.elim
end
theorem asPK_rep {σ:Sg} {h:H} {w:World} {p:PK} {v v':AV} {c:Value} (e:asPK p v=some v') (hn:v.ids=[]) (r:RepA σ h w v c):RepA σ h w v' c∧v'.ids=[]:=by
 unfold asPK at e
 split at e
 ·obtain rfl:=Option.some.inj e
  exact ⟨r,hn⟩
 ·split at e
  ·split at e
   ·split at e
    ·rename_i x hx
     obtain rfl:=Option.some.inj e
     obtain ⟨cvs,hcv,rr⟩:=r
     exact ⟨⟨cvs,hcv,mkSt_rep hx rr⟩,rfl⟩
    ·cases e
   ·cases e
  ·split at e
   ·rename_i x hx
    obtain rfl:=Option.some.inj e
    exact ⟨toTy_rep hx r,rfl⟩
   ·cases e
theorem asPKs_rep {σ:Sg} {h:H} {w:World}:∀{ps:List PK} {vs vs':List AV} {cs:List Value},asPKs ps vs=some vs'→AV.idsL vs=[]→RepAs σ h w vs cs→RepAs σ h w vs' cs∧AV.idsL vs'=[]
 |[],[],_,[],e,_,_=>by
  simp only [asPKs] at e
  obtain rfl:=Option.some.inj e
  exact ⟨trivial,rfl⟩
 |p::ps,v::vs,_,c::cs,e,hn,r=>by
  simp only [asPKs] at e
  simp only [AV.idsL,List.append_eq_nil_iff] at hn
  split at e
  ·rename_i x hx
   split at e
   ·rename_i xs hxs
    obtain rfl:=Option.some.inj e
    obtain ⟨h1,h2⟩:=asPK_rep hx hn.1 r.1
    obtain ⟨h3,h4⟩:=asPKs_rep hxs hn.2 r.2
    exact ⟨⟨h1,h3⟩,by simp [AV.idsL,h2,h4]⟩
   ·cases e
  ·cases e
 |[],_::_,_,_,e,_,_=>by simp [asPKs] at e
 |_::_,[],_,_,e,_,_=>by simp [asPKs] at e
 |[],[],_,_::_,_,_,r=>r.elim
 |_::_,_::_,_,[],_,_,r=>r.elim
theorem roArgs_rep {σ:Sg} {h:H} {w:World} {vw:View} (hs:Shows vw h) (inv:Inv σ h w) {ps:List PK} {a a0:List AV} {c:List Value} (e:roArgs ps vw a=some a0) (r:RepAs σ h w a c):RepAs ⟨σ.val,allFz σ h,σ.bs⟩ [] w a0 c∧AV.idsL a0=[]:=by
 unfold roArgs at e
 split at e
 ·rename_i xs hxs
  obtain ⟨h1,h2⟩:=roL_rep hs inv a xs c hxs r
  exact asPKs_rep e h2 h1
 ·cases e
theorem flat1_rep {σ σ':Sg} {h h':H} {w w':World} {v:AV} {c:Value} (f:flat1 v=true) (r:RepA σ h w v c):RepA σ' h' w' v c∧v.ids=[]:=by
 unfold flat1 at f
 split at f
 ·rename_i t x
  refine ⟨?_,rfl⟩
  cases t with
  |bool=>rw [repT_bool r];exact mk_bool _
  |int k=>rw [repT_int r];exact mk_int _ _
  |str=>rw [repT_str r];exact mk_str _
  |_=>cases f
 ·cases f
theorem flat_rep {σ σ':Sg} {h h':H} {w w':World} {v:AV} {c:Value} (f:flat v=true) (r:RepA σ h w v c):RepA σ' h' w' v c∧v.ids=[]:=by
 unfold flat at f
 split at f
 ·rename_i l
  obtain ⟨cv,hv,hc⟩:=r
  have key:∀(l:List AV) (vs:List Value),l.all flat1=true→RepAs σ h w l vs→RepAs σ' h' w' l vs∧AV.idsL l=[]:=by
   intro l
   induction l with
   |nil=>intro vs _ r;cases vs with
    |nil=>exact ⟨trivial,rfl⟩
    |cons _ _=>exact r.elim
   |cons a l ih=>intro vs f r;cases vs with
    |nil=>exact r.elim
    |cons v vs=>
     simp only [List.all_cons,Bool.and_eq_true] at f
     obtain ⟨h1,h2⟩:=flat1_rep (σ':=σ') (h':=h') (w':=w') f.1 r.1
     obtain ⟨h3,h4⟩:=ih vs f.2 r.2
     exact ⟨⟨h1,h3⟩,by simp [AV.idsL,h2,h4]⟩
  obtain ⟨h1,h2⟩:=key l _ f hc
  exact ⟨⟨cv,hv,h1⟩,h2⟩
 ·exact flat1_rep f r
end
section
theorem coeArgs_sound:∀{ts:List Ty} {vs:List AV} {xs:List AV} {u:Upd} {cvs:List Value} {σ:Sg} {h:H} {w:World} {vw:View},coeArgs vw ts vs=some (xs,u)→Shows vw h→Inv σ h w→RepAs σ h w vs cvs→
  ∃fz',Coed σ h w u fz'∧RepAs ⟨σ.val,fz',σ.bs⟩ (H.apply h u) w xs cvs∧AV.idsL xs=[]
 |[],[],_,_,[],σ,h,w,vw,e,hs,inv,r=>by
  simp only [coeArgs] at e
  obtain ⟨rfl,rfl⟩:=Prod.mk.inj (Option.some.inj e)
  exact ⟨σ.fz,Coed.refl inv,trivial,rfl⟩
 |t::ts,v::vs,_,_,c::cs,σ,h,w,vw,e,hs,inv,r=>by
  simp only [coeArgs] at e
  split at e
  ·rename_i x u1 h1
   split at e
   ·rename_i xs u2 h2
    obtain ⟨rfl,rfl⟩:=Prod.mk.inj (Option.some.inj e)
    obtain ⟨f1,c1,r1⟩:=coe_sound h1 hs inv r.1
    have r2:RepAs ⟨σ.val,f1,σ.bs⟩ (H.apply h u1) w vs cs:=RepAs.mk r.2.length fun i p v hp hv=>c1.keep _ _ (r.2.at i p v hp hv)
    obtain ⟨f2,c2,r3,h3⟩:=coeArgs_sound h2 (hs.dels c1.dels) c1.inv r2
    refine ⟨f2,c1.trans c2,⟨?_,?_⟩,h3⟩
    ·exact RepT.mono c2.fz (fun _ _=>rfl) r1
    ·rw [apply_append];exact r3
   ·cases e
  ·cases e
 |[],_::_,_,_,_,_,_,_,_,e,_,_,_=>by simp [coeArgs] at e
 |_::_,[],_,_,_,_,_,_,_,e,_,_,_=>by simp [coeArgs] at e
 |[],[],_,_,_::_,_,_,_,_,_,_,_,r=>r.elim
 |_::_,_::_,_,_,[],_,_,_,_,_,_,_,r=>r.elim
theorem coeRes_sound {σ:Sg} {h:H} {w:World} (inv:Inv σ h w) {rs:RS} {v v':AV} {cv:Value} (e:coeRes (getV h) rs v=some v') (r:RepA σ h w v cv):
  ∃F:Nat→Prop,(∀b,σ.fz b→F b)∧(∀b,F b→σ.fz b∨∃o,Own h o∧b∈σ.bs o)∧(∀b,F b→b<w.heap.size)∧v'.ids=[]∧∀val bs h',RepA ⟨val,F,bs⟩ h' w v' cv:=by
 have hs:Shows (getV h) h:=fun q y e=>e
 have fin:∀{u:Upd} {F:Nat→Prop},Coed σ h w u F→(∀b,F b→σ.fz b∨∃o,Own h o∧b∈σ.bs o)∧(∀b,F b→b<w.heap.size):=fun co=>by
  have hlt:=co.inv.fzlt
  refine ⟨fun b hb=>?_,hlt⟩
  rcases co.ext.fznew b hb with hb'|hb'|hb'
  ·exact .inl hb'
  ·exact .inr hb'
  ·have:=hlt b hb;omega
 unfold coeRes at e
 split at e
 ·rename_i t
  split at e
  ·rename_i x u hx
   obtain rfl:=Option.some.inj e
   obtain ⟨F,co,rr⟩:=coe_sound hx hs inv r
   exact ⟨F,co.fz,(fin co).1,(fin co).2,rfl,fun _ _ _=>rr⟩
  ·cases e
 ·rename_i ts
  split at e
  ·rename_i vs
   split at e
   ·rename_i xs u hx
    obtain rfl:=Option.some.inj e
    obtain ⟨cvs,hcv,hr⟩:=r
    obtain ⟨F,co,rr,hn⟩:=coeArgs_sound hx hs inv hr
    exact ⟨F,co.fz,(fin co).1,(fin co).2,hn,fun val bs h'=>⟨cvs,hcv,repAs_noids (σ:=⟨σ.val,F,σ.bs⟩) (σ':=⟨val,F,bs⟩) (fun _ h=>h) (fun _ _=>rfl) hn rr⟩⟩
   ·cases e
  ·cases e
theorem coeRes_flat {vw:View} {rs:RS} {v v':AV} (hf:flatRS rs=true) (e:coeRes vw rs v=some v'):flat v'=true:=by
 unfold coeRes at e
 split at e
 ·rename_i t
  split at e
  ·obtain rfl:=Option.some.inj e
   exact hf
  ·cases e
 ·rename_i ts
  split at e
  ·rename_i vs
   split at e
   ·rename_i xs us hx
    obtain rfl:=Option.some.inj e
    have key:∀(ts:List Ty) (vs:List AV) (vw:View) (xs:List AV) (us:Upd),ts.all flatT=true→coeArgs vw ts vs=some (xs,us)→xs.all flat1=true:=by
     intro ts
     induction ts with
     |nil=>
      intro vs vw xs us _ e
      cases vs with
      |nil=>simp only [coeArgs] at e;obtain ⟨rfl,-⟩:=Prod.mk.inj (Option.some.inj e);rfl
      |cons _ _=>simp [coeArgs] at e
     |cons t ts ih=>
      intro vs vw xs us hf e
      cases vs with
      |nil=>simp [coeArgs] at e
      |cons v vs=>
       simp only [List.all_cons,Bool.and_eq_true] at hf
       simp only [coeArgs] at e
       split at e
       ·split at e
        ·rename_i h2
         obtain ⟨rfl,-⟩:=Prod.mk.inj (Option.some.inj e)
         simp only [List.all_cons,Bool.and_eq_true]
         exact ⟨hf.1,ih _ _ _ _ hf.2 h2⟩
        ·cases e
       ·cases e
    exact key ts vs _ xs us hf hx
   ·cases e
  ·cases e
theorem finC_some {R:Type} {rs:RS} {κ:AV→Option R} {v:AV} {t:T} {h:H} {r:R} (e:finC rs κ v t h=some r):∃v',coeRes (getV h) rs v=some v'∧κ v'=some r:=by
 unfold finC at e
 split at e
 ·rename_i v' hv
  exact ⟨v',hv,e⟩
 ·cases e
variable {E : Env} {callI : CallI AV} {dep : Nat}
theorem densOf_rep {σ:Sg} {h:H} {w:World}:∀{ts:List Ty} {l:List AV} {d:Dens ts} {cs:List Value},densOf ts l=some d→RepAs σ h w l cs→RepAs σ h w (avs ts d) cs
 |[],[],_,_,_,r=>r
 |t::ts,v::vs,d,c::cs,e,r=>by
  simp only [densOf] at e
  split at e
  ·rename_i x hx
   split at e
   ·rename_i d' hd
    obtain rfl:=Option.some.inj e
    exact ⟨toTy_rep hx r.1,densOf_rep hd r.2⟩
   ·cases e
  ·cases e
 |[],_::_,_,_,e,_=>by simp [densOf] at e
 |_::_,[],_,_,e,_=>by simp [densOf] at e
 |_::_,_::_,_,[],_,r=>r.elim
theorem avs_ids:∀(ts:List Ty) (d:Dens ts),AV.idsL (avs ts d)=[]
 |[],_=>rfl
 |_::ts,d=>by simp [avs,AV.idsL,AV.ids,avs_ids ts d.2]
theorem roD_some {ts:List Ty} {vw:View} {vs:List AV} {d:Dens ts} (e:roD ts vw vs=some d):∃l,roArgs (ts.map .dat) vw vs=some l∧densOf ts l=some d:=by
 unfold roD at e
 split at e
 ·rename_i l hl
  exact ⟨l,hl,e⟩
 ·cases e
theorem coeD_some {ts:List Ty} {vw:View} {vs:List AV} {d:Dens ts} {u:Upd} (e:coeD ts vw vs=some (d,u)):∃l,coeArgs vw ts vs=some (l,u)∧densOf ts l=some d:=by
 unfold coeD at e
 split at e
 ·rename_i l u' hl
  split at e
  ·rename_i d' hd
   obtain ⟨rfl,rfl⟩:=Prod.mk.inj (Option.some.inj e)
   exact ⟨l,hl,hd⟩
  ·cases e
 ·cases e
def DenP:List Ty→Type
 |[]=>Unit
 |[t]=>t.den
 |t::u::ts=>t.den×DenP (u::ts)
def unT (t:Ty):AV→Option t.den
 |.tv t' x=>if h:t'=t then some (h▸x) else none
 |_=>none
def unP:(ts:List Ty)→List AV→Option (DenP ts)
 |[],vs=>match vs with
  |[]=>some ()
  |_=>none
 |[t],vs=>match vs with
  |v::r=>match r with
   |[]=>unT t v
   |_=>none
  |[]=>none
 |t::u::ts,vs=>match vs with
  |v::r=>match unT t v with
   |some x=>match unP (u::ts) r with
    |some y=>some (x,y)
    |none=>none
   |none=>none
  |[]=>none
def mkP:(ts:List Ty)→DenP ts→List AV
 |[],_=>[]
 |[t],x=>[.tv t x]
 |t::u::ts,p=>.tv t p.1::mkP (u::ts) p.2
def RS.den:RS→Type
 |.one t=>t.den
 |.many ts=>DenP ts
def unR:(rs:RS)→AV→Option rs.den
 |.one t,v=>unT t v
 |.many ts,v=>match v with
  |.tup vs=>unP ts vs
  |_=>none
def mkR:(rs:RS)→rs.den→AV
 |.one t,x=>.tv t x
 |.many ts,x=>.tup (mkP ts x)
theorem unT_some {t:Ty} {v:AV} {x:t.den} (e:unT t v=some x):v=.tv t x:=by
 unfold unT at e
 split at e
 ·split at e
  ·rename_i h
   subst h
   obtain rfl:=Option.some.inj e
   rfl
  ·cases e
 ·cases e
theorem unP_some:∀(ts:List Ty) {vs:List AV} {x:DenP ts},unP ts vs=some x→vs=mkP ts x
 |[],vs,x,e=>by
  cases vs with
  |nil=>rfl
  |cons a b=>cases (show (none:Option (DenP []))=some x from e)
 |[t],vs,x,e=>by
  cases vs with
  |nil=>cases (show (none:Option (DenP [t]))=some x from e)
  |cons v r=>cases r with
   |nil=>rw [unT_some (show unT t v=some x from e)];rfl
   |cons a b=>cases (show (none:Option (DenP [t]))=some x from e)
 |t::u::ts,vs,x,e=>by
  cases vs with
  |nil=>cases (show (none:Option (DenP (t::u::ts)))=some x from e)
  |cons v r=>
   have e':(match unT t v with
    |some x=>match unP (u::ts) r with
     |some y=>some (x,y)
     |none=>none
    |none=>none)=some x:=e
   cases ha:unT t v with
   |none=>rw [ha] at e';cases e'
   |some a=>
    rw [ha] at e'
    cases hb:unP (u::ts) r with
    |none=>rw [hb] at e';cases e'
    |some b=>
     rw [hb] at e'
     obtain rfl:=Option.some.inj e'
     rw [unT_some ha,unP_some (u::ts) hb];rfl
theorem unR_some {rs:RS} {v:AV} {x:rs.den} (e:unR rs v=some x):v=mkR rs x:=by
 cases rs with
 |one t=>exact unT_some e
 |many ts=>
  cases v with
  |tup vs=>rw [unP_some ts (show unP ts vs=some x from e)];rfl
  |_=>cases (show (none:Option (DenP ts))=some x from e)
theorem unR_bind {R:Type} {rs:RS} {v:AV} {g:rs.den→Option R} {y:R} (e:(unR rs v).bind g=some y):∃x,v=mkR rs x∧g x=some y:=by
 cases h:unR rs v with
 |none=>rw [h] at e;cases e
 |some x=>rw [h] at e;exact ⟨x,unR_some h,e⟩
theorem call_ro {α:Type} {callI:CallI α} {κ:AV→Option α} {y:α} (hΦ:SoundΦ E) (hP:OkP E.P) (hI:CallISound E.P callI) {k:Nat} {f:Func} (hf:E.P.funcs[k]?=some f) {vw:View} {h:H} (hs:Shows vw h) {ts:List Ty} {args:List AV} {d:Dens ts} (ha:roD ts vw args=some d) {v:AV} {rs:RS}
  (e:evBody E callI dep k f (avs ts d) [] [] (finC rs κ)=some y) (hκ:∀v₂,κ v₂=some y→v₂=v) (hv:flatRS rs=true) (site:Nat):Callable E.P k∧CallSim E.P k args site h v [] []:=by
 refine ⟨⟨f,hf,hP.names k f hf,by obtain ⟨c,hc⟩:=body_some e;rw [hc];rfl⟩,?_⟩
 intro _ σ w cargs inv r
 obtain ⟨l,hl,hd⟩:=roD_some ha
 obtain ⟨r0,hn⟩:=roArgs_rep hs inv hl r
 replace r0:=densOf_rep hd r0
 have h2:=(body_sound hΦ hP hI hf e (σ:=⟨σ.val,allFz σ h,σ.bs⟩) (nil_inv (allFz_lt inv)) r0 (vals:=[]) trivial).2
 refine h2.mono ?_
 rintro e' w' ⟨cv,σ',v',t',h',rfl,hk,hext,hinv,hrep,-⟩
 obtain ⟨v₂,hc,hk⟩:=finC_some hk
 obtain rfl:=hκ _ hk
 have hg:=grown_of_ext hext
 refine ⟨cv,σ,rfl,ext_grown hg,inv_grown inv hg,?_,fun a c _ r=>keep_grown inv hg r⟩
 obtain ⟨F,-,-,-,-,hr⟩:=coeRes_sound hinv hc hrep
 exact (flat_rep (σ:=⟨σ.val,F,σ.bs⟩) (h:=[]) (coeRes_flat hv hc) (hr _ _ _)).1
end
end Go.Proofs.YtfdcjocallblcaaGreatDoor.Ev
