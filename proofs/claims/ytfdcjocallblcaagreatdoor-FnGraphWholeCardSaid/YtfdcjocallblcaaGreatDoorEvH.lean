/- What changes memory: new objects, writes, rows that become data. No conditions. -/
import Derived.Test.YtfdcjocallblcaaGreatDoorEvG
namespace Go.Proofs.YtfdcjocallblcaaGreatDoor.Ev
open Go
section
variable {σ σ' : Sg} {h h' : H} {w w' : World}
theorem sameO_eq {o:Nat} (e:H.get o h'=H.get o h) (ev:σ'.val o=σ.val o):SameO σ σ' h h' o:=by
 cases g:H.get o h with
 |none=>exact .inl (e.trans g)
 |some x=>exact .inr ⟨live_of g,ev,fun x' q hg hx=>⟨x',by rw [←e];exact hg,hx⟩⟩
theorem blk_own {v:Value} {n c:Nat} {a:Option Addr} (hv:v=.slice a n c):blk v=v.ownBlock:=by
 subst hv;cases a<;>rfl
theorem own_slice {e z n:Nat} {v:Value} {cs:List Value} (ho:w.ownsRow 0 e z v n cs):∃a c,v=.slice a n c:=by
 rcases ho.2 with ⟨hv,hl⟩|⟨b,cap,cur,hv,-⟩
 ·exact ⟨none,0,by rw [hv,hl]⟩
 ·exact ⟨_,_,hv⟩
theorem changeF (inv:Inv σ h w) (o0:Nat) (obj':Obj)
  (hget:∀o,o≠o0→H.get o h'=H.get o h∨H.get o h'=none) (hget0:H.get o0 h'=some obj') (hval:∀o,o≠o0→σ'.val o=σ.val o) (hbs:∀o,o≠o0→σ'.bs o=σ.bs o) (hfz1:∀b,σ.fz b→σ'.fz b)
  (hfz2:∀b,σ'.fz b→σ.fz b∨(((∃o,Own h o∧b∈σ.bs o∧(o=o0∨H.get o h'=none))∨w.heap.size≤b)∧b<w'.heap.size∧b∉σ'.bs o0))
  (hnd:(h'.map (·.1)).Nodup) (hos:w'.os=w.os) (htape:w'.tape=w.tape) (hout:w'.output=w.output) (hsize:w.heap.size≤w'.heap.size)
  (hbl:∀b,b<w.heap.size→(∀o,Own h o→(o=o0∨H.get o h'=none)→b∉σ.bs o)→w'.heap[b]?=w.heap[b]?)
  (hblk:∀b,b∈σ'.bs o0→((∃o,Own h o∧b∈σ.bs o∧(o=o0∨H.get o h'=none))∨w.heap.size≤b)∧b<w'.heap.size) (hbs0:obj'.isDeep=false→σ'.bs o0=(blk (σ'.val o0)).toList)
  (hmen:∀o x,H.get o h=some x→o≠o0→o0∈x.ids→SameO σ σ' h h' o0)
  (hobj:ObjRep σ' h' w' o0 obj'):
  Ext σ h w σ' h' w'∧Inv σ' h' w'∧(∀a c,(o0∈AV.ids a→SameO σ σ' h h' o0)→RepA σ h w a c→RepA σ' h' w' a c):=by
 have same:∀i,i≠o0→SameO σ σ' h h' i:=fun i hi=>by
  rcases hget i hi with e|e
  ·exact sameO_eq e (hval i hi)
  ·exact .inl e
 have live:∀o,o≠o0→Own h' o→Own h o∧H.get o h'=H.get o h:=fun o ho l=>by
  rcases hget o ho with e|e
  ·exact ⟨(own_eq e).1 l,e⟩
  ·obtain ⟨x,g,-⟩:=l
   rw [e] at g;cases g
 have keptne:∀o,o≠o0→Own h' o→∀b,b∈σ.bs o→∀o',Own h o'→(o'=o0∨H.get o' h'=none)→b∉σ.bs o':=fun o ho l b hb o' l' q=>by
  have hne:o≠o':=fun e=>by
   subst e
   rcases q with q|q
   ·exact ho q
   ·obtain ⟨x,g,-⟩:=l
    rw [q] at g;cases g
  exact inv.inj o o' (live o ho l).1 l' hne b hb
 have heq:∀o,o≠o0→Own h' o→∀b,b∈σ.bs o→w'.heap[b]?=w.heap[b]?:=fun o ho l b hb=>hbl b (inv.bslt o (live o ho l).1 b hb) (keptne o ho l b hb)
 have fzh:∀b,σ.fz b→w'.heap[b]?=w.heap[b]?:=fun b hb=>hbl b (inv.fzlt b hb) fun o l _ hb'=>inv.nofz o l b hb' hb
 have fz1:∀b,σ.fz b→σ'.fz b:=hfz1
 have keep:∀a c,(o0∈AV.ids a→SameO σ σ' h h' o0)→RepA σ h w a c→RepA σ' h' w' a c:=fun a c hm r=>
  RepA.mono fz1 fzh a c (fun i hi=>by by_cases e:i=o0;(subst e;exact hm hi);exact same i e) r
 have keeps:∀a c,(o0∈AV.idsL a→SameO σ σ' h h' o0)→RepAs σ h w a c→RepAs σ' h' w' a c:=fun a c hm r=>
  RepAs.mono fz1 fzh a c (fun i hi=>by by_cases e:i=o0;(subst e;exact hm hi);exact same i e) r
 refine ⟨⟨hos,htape,hout,hsize,fz1,fun b hb hn=>hbl b hb fun o l _=>hn o l,fun b hb=>?_,fun o b l hb=>?_⟩,⟨fun o x g=>?_,fun o l b hb=>?_,fun o o' l l' hne b hb=>?_,fun b hb=>?_,hnd,fun o x g d=>?_,fun o l b hb=>?_⟩,keep⟩
 ·rcases hfz2 b hb with q|⟨⟨o',l',hb',-⟩|q,-,-⟩
  ·exact .inl q
  ·exact .inr (.inl ⟨o',l',hb'⟩)
  ·exact .inr (.inr q)
 ·by_cases e:o=o0
  ·subst e
   rcases (hblk b hb).1 with ⟨o',l',hb',-⟩|hh
   ·exact .inl ⟨o',l',hb'⟩
   ·exact .inr hh
  ·rw [hbs o e] at hb;exact .inl ⟨o,(live o e l).1,hb⟩
 ·by_cases e:o=o0
  ·subst e
   rw [hget0] at g
   obtain rfl:=Option.some.inj g
   exact hobj
  ·have g0:H.get o h=some x:=by
    rcases hget o e with e'|e'
    ·rw [←e',g]
    ·rw [e'] at g;cases g
   have hr:=inv.objs o x g0
   cases x with
   |box cs=>
    obtain ⟨b,vs,ty,hv,hb,hc⟩:=hr
    refine ⟨b,vs,ty,by rw [hval o e,hv],?_,keeps _ _ (fun hi=>hmen o _ g0 e hi) hc⟩
    rw [heq o e (own_box g) b (inv.mem g0 rfl (by rw [hv];rfl))];exact hb
   |row el t xs=>
    obtain ⟨cs,ho,hc⟩:=hr
    refine ⟨cs,?_,RepPs.mono fz1 fzh hc⟩
    rw [hval o e]
    exact owns_same ho fun b hb=>heq o e (own_row g) b (inv.mem g0 rfl hb)
   |map=>exact map_mono hr (hval o e) fz1 fzh fun b hb=>heq o e ⟨_,g,rfl⟩ b (inv.mem g0 rfl hb)
   |cel=>exact cel_mono hr (hval o e) fz1 fzh
   |ice t xs=>
    show RepP σ'.fz w' _ (σ'.val o)
    rw [hval o e]
    exact RepP.mono fz1 fzh hr
   |deep m t xs q=>
    exact deep_mono hr (hval o e) (hbs o e) (fun b hb=>heq o e (own_deep g) b hb) fun i off v c hq r=>keep v c (fun hi=>hmen o _ g0 e (by subst hq;exact hi)) r
 ·intro hF
  rcases hfz2 b hF with hf|⟨q,-,q2⟩
  ·by_cases e:o=o0
   ·subst e
    rcases (hblk b hb).1 with ⟨o',l',hb',-⟩|hh
    ·exact inv.nofz o' l' b hb' hf
    ·have:=inv.fzlt b hf;omega
   ·rw [hbs o e] at hb;exact inv.nofz o (live o e l).1 b hb hf
  ·by_cases e:o=o0
   ·subst e;exact q2 hb
   ·rw [hbs o e] at hb
    rcases q with ⟨o',l',hb',q⟩|q
    ·exact keptne o e l b hb o' l' q hb'
    ·have:=inv.bslt o (live o e l).1 b hb;omega
 ·by_cases e:o=o0
  ·subst e
   have e':o'≠o:=Ne.symm hne
   rw [hbs o' e']
   intro hb'
   rcases (hblk b hb).1 with ⟨o'',l'',hb'',q⟩|hh
   ·exact keptne o' e' l' b hb' o'' l'' q hb''
   ·have:=inv.bslt o' (live o' e' l').1 b hb'
    omega
  ·rw [hbs o e] at hb
   by_cases e':o'=o0
   ·subst e'
    intro hb'
    rcases (hblk b hb').1 with ⟨o'',l'',hb'',q⟩|hh
    ·exact keptne o e l b hb o'' l'' q hb''
    ·have:=inv.bslt o (live o e l).1 b hb
     omega
   ·rw [hbs o' e']
    exact inv.inj o o' (live o e l).1 (live o' e' l').1 hne b hb
 ·rcases hfz2 b hb with q|⟨-,q,-⟩
  ·exact Nat.lt_of_lt_of_le (inv.fzlt b q) hsize
  ·exact q
 ·by_cases e:o=o0
  ·subst e
   rw [hget0] at g
   obtain rfl:=Option.some.inj g
   exact hbs0 d
  ·have g0:H.get o h=some x:=by
    rcases hget o e with e'|e'
    ·rw [←e',g]
    ·rw [e'] at g;cases g
   rw [hbs o e,hval o e]
   exact inv.bsok o x g0 d
 ·by_cases e:o=o0
  ·subst e;exact (hblk b hb).2
  ·rw [hbs o e] at hb
   exact Nat.lt_of_lt_of_le (inv.bslt o (live o e l).1 b hb) hsize
theorem changeG (inv:Inv σ h w) (o0:Nat) (obj':Obj)
  (hget:∀o,o≠o0→H.get o h'=H.get o h∨H.get o h'=none) (hget0:H.get o0 h'=some obj') (hval:∀o,o≠o0→σ'.val o=σ.val o) (hbs:∀o,o≠o0→σ'.bs o=σ.bs o) (hfz:σ'.fz=σ.fz)
  (hnd:(h'.map (·.1)).Nodup) (hos:w'.os=w.os) (htape:w'.tape=w.tape) (hout:w'.output=w.output) (hsize:w.heap.size≤w'.heap.size)
  (hbl:∀b,b<w.heap.size→(∀o,Own h o→(o=o0∨H.get o h'=none)→b∉σ.bs o)→w'.heap[b]?=w.heap[b]?)
  (hblk:∀b,b∈σ'.bs o0→((∃o,Own h o∧b∈σ.bs o∧(o=o0∨H.get o h'=none))∨w.heap.size≤b)∧b<w'.heap.size) (hbs0:obj'.isDeep=false→σ'.bs o0=(blk (σ'.val o0)).toList)
  (hmen:∀o x,H.get o h=some x→o≠o0→o0∈x.ids→SameO σ σ' h h' o0)
  (hobj:ObjRep σ' h' w' o0 obj'):
  Ext σ h w σ' h' w'∧Inv σ' h' w'∧(∀a c,(o0∈AV.ids a→SameO σ σ' h h' o0)→RepA σ h w a c→RepA σ' h' w' a c):=
 changeF inv o0 obj' hget hget0 hval hbs (fun b hb=>by rw [hfz];exact hb) (fun b hb=>by rw [hfz] at hb;exact .inl hb) hnd hos htape hout hsize hbl hblk hbs0 hmen hobj
theorem change (inv:Inv σ h w) (o0:Nat) (obj':Obj) (row:Option Nat)
  (hget:∀o,o≠o0→H.get o h'=H.get o h) (hget0:H.get o0 h'=some obj') (hval:∀o,o≠o0→σ'.val o=σ.val o) (hbs:∀o,o≠o0→σ'.bs o=σ.bs o) (hfz:σ'.fz=σ.fz)
  (hnd:(h'.map (·.1)).Nodup) (hg:w.grownBy w' row) (hrow:∀b,row=some b→Own h o0∧b∈σ.bs o0)
  (hblk:∀b,b∈σ'.bs o0→((Own h o0∧b∈σ.bs o0)∨w.heap.size≤b)∧b<w'.heap.size) (hbs0:obj'.isDeep=false→σ'.bs o0=(blk (σ'.val o0)).toList)
  (hmen:∀o x,H.get o h=some x→o≠o0→o0∈x.ids→SameO σ σ' h h' o0)
  (hobj:ObjRep σ' h' w' o0 obj'):
  Ext σ h w σ' h' w'∧Inv σ' h' w'∧(∀a c,(o0∈AV.ids a→SameO σ σ' h h' o0)→RepA σ h w a c→RepA σ' h' w' a c):=
 changeG inv o0 obj' (fun o ho=>.inl (hget o ho)) hget0 hval hbs hfz hnd hg.os hg.tape hg.output hg.size
  (fun b hb hn=>hg.block b hb fun e=>hn o0 (hrow b e.symm).1 (.inl rfl) (hrow b e.symm).2)
  (fun b hb=>⟨(hblk b hb).1.imp (fun q=>⟨o0,q.1,q.2,.inl rfl⟩) id,(hblk b hb).2⟩) hbs0 hmen hobj
theorem frozen {σ:Sg} {h:H} {w:World} (inv:Inv σ h w) {o:Nat} {el0:Nat} {k:Ty} {xs:List k.den} (g:H.get o h=some (.row el0 k xs)) {F:Nat→Prop} (fz1:∀b,σ.fz b→F b) (hFb:∀b,blk (σ.val o)=some b→F b):
  RepP F w (.sl (xs.map (enc k))) (σ.val o):=by
 obtain ⟨cs,ho,hc⟩:=inv.objs o _ g
 rcases ho.2 with ⟨hv,hl⟩|⟨b,cap,cur,hv,-,hh,hle,hcm,hcs,htk⟩
 ·obtain rfl:=List.eq_nil_of_length_eq_zero hl
  rw [hv];exact .sl0 none 0
 ·have hcell:∀j c,cs[j]?=some c→w.cell? ⟨b,j,none⟩=some c:=by rw [hv] at ho;exact rowCells ho
  have hcl:cs.length=xs.length*nCells k:=ho.1
  have hFb:F b:=hFb b (by rw [hv];rfl)
  rw [hv,←List.length_map (f:=enc k)]
  refine .sl (xs.map (enc k)) b 0 (nCells k) cap (fun i j=>cs.getD (i*nCells k+j) undef) (by rw [List.length_map];exact hle) hFb (fun e he=>?_) (fun i j hi hj=>?_) (fun i hi j hj=>?_)
  ·obtain ⟨x,-,rfl⟩:=List.mem_map.1 he;exact enc_length k x
  ·rw [List.length_map] at hi
   have hlt:i*nCells k+j<cs.length:=by
    rw [hcl]
    calc i*nCells k+j<i*nCells k+nCells k:=by omega
     _=(i+1)*nCells k:=by rw [Nat.add_mul,Nat.one_mul]
     _≤xs.length*nCells k:=Nat.mul_le_mul_right _ hi
   rw [Nat.zero_add]
   apply hcell
   rw [List.getD_eq_getElem?_getD,List.getElem?_eq_getElem hlt];rfl
  ·rw [List.length_map] at hi
   simp only [List.getElem_map] at hj⊢
   have hx:xs[i]?=some xs[i]:=List.getElem?_eq_getElem hi
   have hd:=(hc.drop (i*nCells k)).take (nCells k)
   rw [flatMap_drop (enc k) (nCells k) xs (fun x _=>enc_length k x) i _ hx] at hd
   have hj':j<nCells k:=by rw [enc_length] at hj;exact hj
   have hlt:i*nCells k+j<cs.length:=by
    rw [hcl]
    calc i*nCells k+j<i*nCells k+nCells k:=by omega
     _=(i+1)*nCells k:=by rw [Nat.add_mul,Nat.one_mul]
     _≤xs.length*nCells k:=Nat.mul_le_mul_right _ hi
   refine RepP.mono fz1 (fun _ _=>rfl) (hd.at j _ _ (List.getElem?_eq_getElem hj) ?_)
   rw [List.getElem?_take,if_pos hj',List.getElem?_drop,List.getD_eq_getElem?_getD,List.getElem?_eq_getElem hlt];rfl
theorem flatten_at {α:Type} (z:Nat) (es:List (List α)) (hz:∀e∈es,e.length=z) {i j:Nat} (hi:i<es.length) (hj:j<z):es.flatten[i*z+j]?=(es[i])[j]?:=by
 have h1:=flatMap_drop id z es (fun x hx=>hz x hx) i (es[i]) (List.getElem?_eq_getElem hi)
 rw [List.flatMap_id] at h1
 have h2:((es.flatten.drop (i*z)).take z)[j]?=es.flatten[i*z+j]?:=by
  rw [List.getElem?_take,if_pos hj,List.getElem?_drop]
 rw [←h2,h1];rfl
theorem own_RepP {F:Nat→Prop} {w:World} {e z:Nat} {es:List (List PV)} {v:Value} {cs:List Value} (ho:w.ownsRow 0 e z v es.length cs) (hz:∀e∈es,e.length=z) (hF:∀b,blk v=some b→F b)
  (hr:∀(p:Nat) (pv:PV) (c:Value),es.flatten[p]?=some pv→cs[p]?=some c→RepP F w pv c):RepP F w (.sl es) v:=by
 rcases ho.2 with ⟨hv,hl⟩|⟨b,cap,cur,hv,-,hh,hle,hcm,hcs,htk⟩
 ·obtain rfl:=List.eq_nil_of_length_eq_zero hl
  rw [hv];exact .sl0 none 0
 ·have hcell:∀j c,cs[j]?=some c→w.cell? ⟨b,j,none⟩=some c:=by rw [hv] at ho;exact rowCells ho
  have hcl:cs.length=es.length*z:=ho.1
  have hlt:∀i j,i<es.length→j<z→i*z+j<cs.length:=fun i j hi hj=>by
   rw [hcl]
   calc i*z+j<i*z+z:=by omega
    _=(i+1)*z:=by rw [Nat.add_mul,Nat.one_mul]
    _≤es.length*z:=Nat.mul_le_mul_right _ hi
  rw [hv]
  refine .sl es b 0 z cap (fun i j=>cs.getD (i*z+j) undef) hle (hF b (by rw [hv];rfl)) hz (fun i j hi hj=>?_) (fun i hi j hj=>?_)
  ·rw [Nat.zero_add]
   apply hcell
   rw [List.getD_eq_getElem?_getD,List.getElem?_eq_getElem (hlt i j hi hj)];rfl
  ·have hj':j<z:=by rw [←hz _ (List.getElem_mem hi)];exact hj
   refine hr (i*z+j) _ _ (by rw [flatten_at z es hz hi hj',List.getElem?_eq_getElem hj]) ?_
   rw [List.getD_eq_getElem?_getD,List.getElem?_eq_getElem (hlt i j hi hj')];rfl
theorem RepO.frozen {m:Nat} {w:World} {t:Ty} {p:PV} {v:Value} {bs:List Nat} (r:RepO m w t p v bs) {F:Nat→Prop}:(∀b∈bs,F b)→RepP F w p v:=by
 induction r with
 |bool t b=>exact fun _=>.bool b
 |int t k n=>exact fun _=>.int k n
 |str t s=>exact fun _=>.str s
 |sl t es v cs bss hown hz hb hr ih=>
  intro hF
  refine own_RepP hown hz (fun b hb=>hF b (List.mem_append_left _ (by rw [hb];simp))) fun p pv c h1 h2=>?_
  have hp:p<bss.length:=by rw [hb];exact (List.getElem?_eq_some_iff.1 h2).1
  exact ih p pv c _ h1 h2 (List.getElem?_eq_getElem hp) fun b hb'=>hF b (List.mem_append_right _ (List.mem_flatten.2 ⟨_,List.getElem_mem hp,hb'⟩))
theorem frozenD {σ:Sg} {h:H} {w:World} (inv:Inv σ h w) {o m:Nat} {k:Ty} {xs:List k.den} (g:H.get o h=some (.deep m k xs none)) {F:Nat→Prop} (hF:∀b∈σ.bs o,F b):RepP F w (.sl (xs.map (enc k))) (σ.val o):=by
 obtain ⟨cs,bss,h1,h2,h3,h4,-⟩:=inv.objs o _ g
 rw [h4] at hF
 refine own_RepP (z:=nCells k) (by rw [List.length_map];exact h1) (fun e he=>?_) (fun b hb=>hF b (List.mem_append_left _ (by rw [hb];simp))) fun p pv c hp hc=>?_
 ·obtain ⟨x,-,rfl⟩:=List.mem_map.1 he;exact enc_length k x
 ·have hp':p<bss.length:=by rw [h2];exact (List.getElem?_eq_some_iff.1 hc).1
  rw [←List.flatMap_def] at hp
  exact RepO.frozen (h3 p pv c _ hp hc (List.getElem?_eq_getElem hp')) fun b hb'=>hF b (List.mem_append_right _ (List.mem_flatten.2 ⟨_,List.getElem_mem hp',hb'⟩))
theorem freezeG (inv:Inv σ h w) {o:Nat} {x0 x1:Obj} (g:H.get o h=some x0) (hx0:x0.isIce=false) (hx1:x1.isIce=true) (hinfo:x1.info=none) (hdeep:x1.isDeep=true)
  (hrep:ObjRep ⟨σ.val,fun b=>σ.fz b∨b∈σ.bs o,σ.bs⟩ (H.put o x1 h) w o x1):
  ∃fz':Nat→Prop,Ext σ h w ⟨σ.val,fz',σ.bs⟩ (H.put o x1 h) w∧Inv ⟨σ.val,fz',σ.bs⟩ (H.put o x1 h) w∧ObjRep ⟨σ.val,fz',σ.bs⟩ (H.put o x1 h) w o x1∧(∀b,σ.fz b→fz' b)∧
   (∀a c,RepA σ h w a c→RepA ⟨σ.val,fz',σ.bs⟩ (H.put o x1 h) w a c):=by
 have own0:Own h o:=⟨x0,g,hx0⟩
 have hlt:∀b,b∈σ.bs o→b<w.heap.size:=inv.bslt o own0
 refine ⟨fun b=>σ.fz b∨b∈σ.bs o,?_⟩
 have fz1:∀b,σ.fz b→(σ.fz b∨b∈σ.bs o):=fun b hb=>.inl hb
 have hput:∀i,i≠o→H.get i (H.put o x1 h)=H.get i h:=fun i hi=>H.get_put_ne _ hi h
 have hput0:H.get o (H.put o x1 h)=some x1:=H.get_put_same o _ h
 have same:∀i,SameO σ ⟨σ.val,fun b=>σ.fz b∨b∈σ.bs o,σ.bs⟩ h (H.put o x1 h) i:=fun i=>by
  by_cases e:i=o
  ·subst e;exact .inr ⟨live_of g,rfl,fun x' q hx hq=>by rw [hput0] at hx;obtain rfl:=Option.some.inj hx;rw [hinfo] at hq;cases hq⟩
  ·exact sameO_eq (hput i e) rfl
 have live:∀i,Own (H.put o x1 h) i→Own h i∧i≠o:=fun i l=>by
  by_cases e:i=o
  ·subst e
   obtain ⟨x,gx,hx⟩:=l
   rw [hput0] at gx
   obtain rfl:=Option.some.inj gx
   rw [hx1] at hx;cases hx
  ·exact ⟨(own_eq (hput i e)).1 l,e⟩
 have keep:∀a c,RepA σ h w a c→RepA ⟨σ.val,fun b=>σ.fz b∨b∈σ.bs o,σ.bs⟩ (H.put o x1 h) w a c:=fun a c r=>
  RepA.mono fz1 (fun _ _=>rfl) a c (fun i _=>same i) r
 refine ⟨⟨rfl,rfl,rfl,Nat.le_refl _,fz1,fun _ _ _=>rfl,fun b hb=>?_,fun i b l hb=>.inl ⟨i,(live i l).1,hb⟩⟩,⟨fun i x gi=>?_,fun i l b hb hf=>?_,fun i i' l l' hne b hb=>inv.inj i i' (live i l).1 (live i' l').1 hne b hb,fun b hb=>?_,H.nodup_put o _ h inv.nodup,fun i x gi d=>?_,fun i l b hb=>inv.bslt i (live i l).1 b hb⟩,hrep,fz1,keep⟩
 ·rcases hb with hb|hb
  ·exact .inl hb
  ·exact .inr (.inl ⟨o,own0,hb⟩)
 ·by_cases ie:i=o
  ·subst ie
   rw [hput0] at gi
   obtain rfl:=Option.some.inj gi
   exact hrep
  ·rw [hput i ie] at gi
   have hr:=inv.objs i x gi
   cases x with
   |box cs=>
    obtain ⟨b,vs,ty,hv,hb,hc⟩:=hr
    exact ⟨b,vs,ty,hv,hb,RepAs.mono fz1 (fun _ _=>rfl) _ _ (fun i _=>same i) hc⟩
   |row el t xs=>
    obtain ⟨cs,ho,hc⟩:=hr
    exact ⟨cs,ho,RepPs.mono fz1 (fun _ _=>rfl) hc⟩
   |map=>exact map_mono hr rfl fz1 (fun _ _=>rfl) fun _ _=>rfl
   |cel=>exact cel_mono hr rfl fz1 (fun _ _=>rfl)
   |ice t xs=>exact RepP.mono fz1 (fun _ _=>rfl) hr
   |deep m t xs q=>exact deep_mono hr rfl rfl (fun _ _=>rfl) fun _ _ v c _ r=>keep v c r
 ·rcases hf with hf|hf
  ·exact inv.nofz i (live i l).1 b hb hf
  ·exact inv.inj i o (live i l).1 own0 (live i l).2 b hb hf
 ·rcases hb with hb|hb
  ·exact inv.fzlt b hb
  ·exact hlt b hb
 ·by_cases ie:i=o
  ·subst ie
   rw [hput0] at gi
   obtain rfl:=Option.some.inj gi
   rw [hdeep] at d;cases d
  ·rw [hput i ie] at gi;exact inv.bsok i x gi d
theorem freeze (inv:Inv σ h w) {o:Nat} {el0:Nat} {k:Ty} {xs:List k.den} (g:H.get o h=some (.row el0 k xs)):
  ∃fz':Nat→Prop,Ext σ h w ⟨σ.val,fz',σ.bs⟩ (H.put o (.ice k xs) h) w∧Inv ⟨σ.val,fz',σ.bs⟩ (H.put o (.ice k xs) h) w∧RepP fz' w (.sl (xs.map (enc k))) (σ.val o)∧(∀b,σ.fz b→fz' b)∧
   (∀a c,RepA σ h w a c→RepA ⟨σ.val,fz',σ.bs⟩ (H.put o (.ice k xs) h) w a c):=
 freezeG inv g rfl rfl rfl rfl (frozen inv g (fun b hb=>.inl hb) (fun b hb=>.inr (inv.mem g rfl hb)))
theorem freezeD (inv:Inv σ h w) {o m:Nat} {k:Ty} {xs:List k.den} (g:H.get o h=some (.deep m k xs none)):
  ∃fz':Nat→Prop,Ext σ h w ⟨σ.val,fz',σ.bs⟩ (H.put o (.ice k xs) h) w∧Inv ⟨σ.val,fz',σ.bs⟩ (H.put o (.ice k xs) h) w∧RepP fz' w (.sl (xs.map (enc k))) (σ.val o)∧(∀b,σ.fz b→fz' b)∧
   (∀a c,RepA σ h w a c→RepA ⟨σ.val,fz',σ.bs⟩ (H.put o (.ice k xs) h) w a c):=
 freezeG inv g rfl rfl rfl rfl (frozenD inv g fun b hb=>.inr hb)
end
end Go.Proofs.YtfdcjocallblcaaGreatDoor.Ev
