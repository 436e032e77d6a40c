/- One operation of the evaluator stands for the machine's: rows that become data, literals of slices, make, append. No conditions. -/
import Derived.Test.YtfdcjocallblcaaGreatDoorEvI
namespace Go.Proofs.YtfdcjocallblcaaGreatDoor.Ev
open Go
section
variable {h : H} {w : World} {vw : View}
def Shows (vw:View) (h:H):Prop:=∀q y,vw q=some y→H.get q h=some y
def Dels (u:Upd):Prop:=∀p∈u,∃x,p.2=some x∧x.isIce=true
theorem apply_append (u v:Upd):∀h:H,H.apply h (u++v)=H.apply (H.apply h u) v:=by
 induction u with
 |nil=>intro h;rfl
 |cons p u ih=>
  intro h
  obtain ⟨o,x⟩:=p
  cases x<;>exact ih _
theorem get_dels {u:Upd} (hu:Dels u):∀(h:H) (q:Nat),u.any (fun p=>Nat.beq p.1 q)=false→H.get q (H.apply h u)=H.get q h:=by
 induction u with
 |nil=>intro h q _;rfl
 |cons p u ih=>
  intro h q hq
  obtain ⟨o,x⟩:=p
  obtain ⟨y,hx,-⟩:=hu (o,x) (by simp)
  have hx:x=some y:=hx
  subst hx
  simp only [List.any_cons,Bool.or_eq_false_iff] at hq
  show H.get q (H.apply (H.put o y h) u)=_
  rw [ih (fun p hp=>hu p (by simp [hp])) _ q hq.2,H.get_put_ne _ (fun e=>nbeq_ne.1 hq.1 e.symm)]
theorem Shows.dels {u:Upd} (hs:Shows vw h) (hu:Dels u):Shows (vwDel u vw) (H.apply h u):=by
 intro q y hq
 unfold vwDel at hq
 cases hc:u.any (fun p=>Nat.beq p.1 q) with
 |true=>rw [hc] at hq;cases hq
 |false=>rw [hc] at hq;rw [get_dels hu h q hc];exact hs q y hq
theorem ids_put (o:Nat) (x:Obj):∀h:H,∀i∈H.ids (H.put o x h),i∈H.ids h∨i=o∨i∈x.ids
 |[],i,hi=>by simp [H.put,H.ids] at hi;rcases hi with h|h<;>simp [h]
 |(j,y)::r,i,hi=>by
  simp only [H.put] at hi
  cases e:Nat.beq j o
  ·rw [e] at hi
   simp only [cond_false,H.ids,List.mem_cons,List.mem_append] at hi⊢
   rcases hi with hi|hi|hi
   ·exact .inl (.inl hi)
   ·exact .inl (.inr (.inl hi))
   ·rcases ids_put o x r i hi with h|h
    ·exact .inl (.inr (.inr h))
    ·exact .inr h
  ·rw [e] at hi
   simp only [cond_true,H.ids,List.mem_cons,List.mem_append] at hi⊢
   rcases hi with hi|hi|hi
   ·exact .inl (.inl hi)
   ·exact .inr (.inr hi)
   ·exact .inl (.inr (.inr hi))
structure Coed (σ:Sg) (h:H) (w:World) (u:Upd) (fz':Nat→Prop):Prop where
 dels:Dels u
 ext:Ext σ h w ⟨σ.val,fz',σ.bs⟩ (H.apply h u) w
 inv:Inv ⟨σ.val,fz',σ.bs⟩ (H.apply h u) w
 fz:∀b,σ.fz b→fz' b
 ids:∀i∈H.ids (H.apply h u),i∈H.ids h
 keep:∀a c,RepA σ h w a c→RepA ⟨σ.val,fz',σ.bs⟩ (H.apply h u) w a c
theorem Coed.refl {σ:Sg} (inv:Inv σ h w):Coed σ h w [] σ.fz:=⟨fun p hp=>by simp at hp,Ext.refl _ _ _,inv,fun _ h=>h,fun _ h=>h,fun _ _ r=>r⟩
theorem Coed.trans {σ:Sg} {u v:Upd} {f g:Nat→Prop} (a:Coed σ h w u f) (b:Coed ⟨σ.val,f,σ.bs⟩ (H.apply h u) w v g):Coed σ h w (u++v) g where
 dels p hp:=by
  rcases List.mem_append.1 hp with hp|hp
  ·exact a.dels p hp
  ·exact b.dels p hp
 ext:=by rw [apply_append];exact a.ext.trans b.ext
 inv:=by rw [apply_append];exact b.inv
 fz x hx:=b.fz x (a.fz x hx)
 ids i hi:=by rw [apply_append] at hi;exact a.ids i (b.ids i hi)
 keep x c r:=by rw [apply_append];exact b.keep x c (a.keep x c r)
theorem coeRow_sound {σ:Sg} {t:Ty} {v:AV} {x:t.den} {u:Upd} {cv:Value} (e:coeRow t vw v=some (x,u)) (hs:Shows vw h) (inv:Inv σ h w) (r:RepA σ h w v cv):
  ∃fz',Coed σ h w u fz'∧RepT fz' w t x cv:=by
 unfold coeRow at e
 split at e
 ·rename_i o
  split at e
  ·rename_i k
   split at e
   ·rename_i el0 k' xs hg
    split at e
    ·rename_i hk
     subst hk
     obtain ⟨rfl,rfl⟩:=Prod.mk.inj (Option.some.inj e)
     have hgg:=hs _ _ hg
     obtain ⟨fz',e1,e2,e3,e4,e5⟩:=freeze inv hgg
     refine ⟨fz',⟨fun p hp=>by simp at hp;subst hp;exact ⟨_,rfl,rfl⟩,e1,e2,e4,fun i hi=>?_,e5⟩,?_⟩
     ·rcases ids_put _ _ h i hi with hh|rfl|hh
      ·exact hh
      ·exact H.ids_of_mem (H.mem_of_get hgg)
      ·simp [Obj.ids] at hh
     ·rw [r.2 (live_of hgg)]
      exact ⟨e3,trivial⟩
    ·cases e
   ·rename_i k' xs hg
    split at e
    ·rename_i hk
     subst hk
     obtain ⟨rfl,rfl⟩:=Prod.mk.inj (Option.some.inj e)
     have hgg:=hs _ _ hg
     refine ⟨σ.fz,Coed.refl inv,?_⟩
     rw [r.2 (live_of hgg)]
     exact ⟨inv.objs _ _ hgg,trivial⟩
    ·cases e
   ·rename_i m k' xs hg
    split at e
    ·rename_i hk
     subst hk
     obtain ⟨rfl,rfl⟩:=Prod.mk.inj (Option.some.inj e)
     have hgg:=hs _ _ hg
     obtain ⟨fz',e1,e2,e3,e4,e5⟩:=freezeD inv hgg
     refine ⟨fz',⟨fun p hp=>by simp at hp;subst hp;exact ⟨_,rfl,rfl⟩,e1,e2,e4,fun i hi=>?_,e5⟩,?_⟩
     ·rcases ids_put _ _ h i hi with hh|rfl|hh
      ·exact hh
      ·exact H.ids_of_mem (H.mem_of_get hgg)
      ·simp [Obj.ids] at hh
     ·rw [r.2 (live_of hgg)]
      exact ⟨e3,trivial⟩
    ·cases e
   ·cases e
  ·cases e
 ·split at e
  ·rename_i x' hx
   obtain ⟨rfl,rfl⟩:=Prod.mk.inj (Option.some.inj e)
   exact ⟨σ.fz,Coed.refl inv,toTy_rep hx r⟩
  ·cases e
theorem coeCells_sound:∀{ts:List Ty} {vs:List AV} {xs:List AV} {u:Upd} {cvs:List Value} {σ:Sg} {h:H} {vw:View},coeCells vw ts vs=some (xs,u)→Shows vw h→Inv σ h w→RepAs σ h w vs cvs→
  ∃fz',Coed σ h w u fz'∧RepAs ⟨σ.val,fz',σ.bs⟩ (H.apply h u) w xs cvs
 |[],[],_,_,[],σ,h,vw,e,hs,inv,r=>by
  simp only [coeCells] at e
  obtain ⟨rfl,rfl⟩:=Prod.mk.inj (Option.some.inj e)
  exact ⟨σ.fz,Coed.refl inv,trivial⟩
 |t::ts,v::vs,_,_,c::cs,σ,h,vw,e,hs,inv,r=>by
  simp only [coeCells] at e
  split at e
  ·rename_i x u1 h1
   split at e
   ·rename_i xs u2 h2
    obtain ⟨rfl,rfl⟩:=Prod.mk.inj (Option.some.inj e)
    obtain ⟨f1,c1,r1⟩:=coeRow_sound h1 hs inv r.1
    have r2:RepAs ⟨σ.val,f1,σ.bs⟩ (H.apply h u1) w vs cs:=by
     refine RepAs.mk r.2.length fun i p v hp hv=>c1.keep _ _ (r.2.at i p v hp hv)
    obtain ⟨f2,c2,r3⟩:=coeCells_sound h2 (hs.dels c1.dels) c1.inv r2
    refine ⟨f2,c1.trans c2,?_,?_⟩
    ·exact RepT.mono c2.fz (fun _ _=>rfl) r1
    ·rw [apply_append];exact r3
   ·cases e
  ·cases e
 |[],_::_,_,_,_,_,_,_,e,_,_,_=>by simp [coeCells] at e
 |_::_,[],_,_,_,_,_,_,e,_,_,_=>by simp [coeCells] at e
 |[],[],_,_,_::_,_,_,_,_,_,_,r=>r.elim
 |_::_,_::_,_,_,[],_,_,_,_,_,_,r=>r.elim
theorem coe_sound {σ:Sg} {t:Ty} {v:AV} {x:t.den} {u:Upd} {cv:Value} (e:coe t vw v=some (x,u)) (hs:Shows vw h) (inv:Inv σ h w) (r:RepA σ h w v cv):
  ∃fz',Coed σ h w u fz'∧RepT fz' w t x cv:=by
 unfold coe at e
 split at e
 ·rename_i cs
  split at e
  ·rename_i i
   split at e
   ·rename_i xs u1 h1
    split at e
    ·rename_i x' hx
     obtain ⟨rfl,rfl⟩:=Prod.mk.inj (Option.some.inj e)
     obtain ⟨cvs,hcv,rr⟩:=r
     obtain ⟨f,c,r1⟩:=coeCells_sound h1 hs inv rr
     exact ⟨f,c,cvs,hcv,mkSt_rep hx r1⟩
    ·cases e
   ·cases e
  ·cases e
 ·exact coeRow_sound e hs inv r
def RepTs (fz:Nat→Prop) (w:World) (t:Ty):List t.den→List Value→Prop
 |[],[]=>True
 |x::xs,v::vs=>RepT fz w t x v∧RepTs fz w t xs vs
 |_,_=>False
theorem RepTs.mono {fz fz':Nat→Prop} {w w':World} (h1:∀b,fz b→fz' b) (h2:∀b,fz b→w'.heap[b]?=w.heap[b]?) {t:Ty}:∀{xs:List t.den} {vs:List Value},RepTs fz w t xs vs→RepTs fz' w' t xs vs
 |[],[],_=>trivial
 |_::_,_::_,r=>⟨RepT.mono h1 h2 r.1,RepTs.mono h1 h2 r.2⟩
 |[],_::_,r=>r.elim
 |_::_,[],r=>r.elim
theorem RepT.cells {fz:Nat→Prop} {w:World} {t:Ty} {x:t.den} {v:Value} (r:RepT fz w t x v):RepPs fz w (enc t x) v.cells.toList:=by
 cases t with
 |st i=>obtain ⟨cs,hv,hr⟩:=r;subst hv;exact hr
 |_=>rw [cells_one (RepP.oneCell r.1)];exact r
theorem RepTs.cells {fz:Nat→Prop} {w:World} {t:Ty}:∀{xs:List t.den} {vs:List Value},RepTs fz w t xs vs→RepPs fz w (xs.flatMap (enc t)) (vs.flatMap fun v=>v.cells.toList)∧(∀v∈vs,v.cells.size=nCells t)∧xs.length=vs.length
 |[],[],_=>⟨trivial,by simp,rfl⟩
 |x::xs,v::vs,r=>by
  obtain ⟨h1,h2,h3⟩:=RepTs.cells r.2
  refine ⟨r.1.cells.append h1,fun u hu=>?_,by simp [h3]⟩
  rcases List.mem_cons.1 hu with rfl|hu
  ·rw [←enc_length t x,←Array.length_toList];exact (RepPs.length r.1.cells).symm
  ·exact h2 u hu
 |[],_::_,r=>r.elim
 |_::_,[],r=>r.elim
theorem coes_sound {t:Ty}:∀{vs:List AV} {xs:List t.den} {u:Upd} {cvs:List Value} {σ:Sg} {h:H} {vw:View},coes t vw vs=some (xs,u)→Shows vw h→Inv σ h w→RepAs σ h w vs cvs→
  ∃fz',Coed σ h w u fz'∧RepTs fz' w t xs cvs
 |[],_,_,[],σ,h,vw,e,hs,inv,r=>by
  simp only [coes] at e
  obtain ⟨rfl,rfl⟩:=Prod.mk.inj (Option.some.inj e)
  exact ⟨σ.fz,Coed.refl inv,trivial⟩
 |v::vs,_,_,c::cs,σ,h,vw,e,hs,inv,r=>by
  simp only [coes] at e
  split at e
  ·rename_i x u1 h1
   split at e
   ·rename_i xs u2 h2
    obtain ⟨rfl,rfl⟩:=Prod.mk.inj (Option.some.inj e)
    obtain ⟨f1,c1,r1⟩:=coe_sound h1 hs inv r.1
    have r2:RepAs ⟨σ.val,f1,σ.bs⟩ (H.apply h u1) w vs cs:=by
     refine RepAs.mk r.2.length fun i p v hp hv=>c1.keep _ _ (r.2.at i p v hp hv)
    obtain ⟨f2,c2,r3⟩:=coes_sound h2 (hs.dels c1.dels) c1.inv r2
    exact ⟨f2,c1.trans c2,RepT.mono c2.fz (fun _ _=>rfl) r1,r3⟩
   ·cases e
  ·cases e
 |[],_,_,_::_,_,_,_,_,_,_,r=>r.elim
 |_::_,_,_,[],_,_,_,_,_,_,r=>r.elim
theorem ids_del (o:Nat):∀h:H,∀i,i∈H.ids (H.del o h)→i∈H.ids h
 |[],i,hi=>hi
 |(j,y)::r,i,hi=>by
  simp only [H.del] at hi
  cases e:Nat.beq j o
  ·rw [e] at hi
   simp only [cond_false,H.ids,List.mem_cons,List.mem_append] at hi⊢
   rcases hi with hi|hi|hi
   ·exact .inl hi
   ·exact .inr (.inl hi)
   ·exact .inr (.inr (ids_del o r i hi))
  ·rw [e] at hi
   simp only [cond_true,H.ids,List.mem_cons,List.mem_append] at hi⊢
   exact .inr (.inr hi)
end
section
variable {E : Env} {o : Oper} {site : Nat} {vs : List AV} {h : H} {vw : View} {v : AV} {u : Upd} {ks : List Nat}
theorem sim_newRow {e:Nat} {k:Ty} {xs:List k.den} {u:Upd} (hpos:1≤nCells k)
  (H0:∀(σ:Sg) (w:World) (a:Act),Inv σ h w→RepAs σ h w vs (o.op.operands.toList.map a.eval)→∃(fz':Nat→Prop) (w':World) (cv:Value) (cs:List Value),(execOp a.eval o).run E.P w=.ok (.value cv) w'∧Coed σ h w u fz'∧w.grownBy w' none∧
   (∀b,blk cv=some b→w.heap.size≤b)∧w'.ownsRow 0 e (nCells k) cv xs.length cs∧RepPs fz' w (xs.flatMap (enc k)) cs):
  Sim E.P o site vs h (.row site) (u++[(site,some (.row e k xs))]) []:=by
 intro hs σ w a inv r next Q hn
 have hs:=hs ⟨_,List.mem_append_right _ (List.mem_singleton.2 rfl)⟩
 obtain ⟨fz',w',cv,cs,hrun,hc,hg,hb,hown,hrep⟩:=H0 σ w a inv r
 have hs1:site∉H.ids (H.apply h u):=fun hi=>hs.1 (hc.ids site hi)
 obtain ⟨av,cc,hcv⟩:=own_slice hown
 have fzh:∀b,fz' b→w'.heap[b]?=w.heap[b]?:=fun b hbf=>hg.block b (hc.inv.fzlt b hbf) (by simp)
 obtain ⟨e1,e2,e3⟩:=new_obj (σ:=⟨σ.val,fz',σ.bs⟩) (w':=w') hc.inv hs1 (.row e k xs) cv hg (fun b hbb=>⟨hb b hbb,by rw [blk_own hcv] at hbb;exact (hown.lt b hbb).2⟩)
  ⟨cs,by rw [Sg.set_same];exact hown,RepPs.mono (fun _ h=>h) fzh hrep⟩
 refine wp_value hrun (hn (Sg.set ⟨σ.val,fz',σ.bs⟩ site cv) w' cv ?_)
 have happ:H.apply h (u++[(site,some (.row e k xs))])=H.put site (.row e k xs) (H.apply h u):=by rw [apply_append];rfl
 refine ⟨?_,?_,?_,?_⟩
 ·show Ext σ h w _ (H.apply h (u++_)) w'
  rw [happ];exact hc.ext.trans e1
 ·show Inv _ (H.apply h (u++_)) w'
  rw [happ];exact e2
 ·show RepA _ (H.apply h (u++_)) w' _ _
  rw [happ];exact ⟨by rw [hcv];rfl,fun _=>(Sg.set_same _ _ _).symm⟩
 ·intro b c hbn r
  show RepA _ (H.apply h (u++_)) w' _ _
  rw [happ]
  exact e3 b c (fun hi=>(hbn site hi).2 rfl _ (List.mem_append_right _ (List.mem_singleton.2 rfl))) (hc.keep b c r)
theorem range_zip (ps:List (Nat×Operand)) (n:Nat) (ρ:Operand→Value) (hp:ps.map (·.1)=List.range n):(ps.map fun p=>(p.1,ρ p.2))=(((ps.map fun p=>ρ p.2)).zipIdx 0).map fun x=>(x.2,x.1):=by
 apply List.ext_getElem?
 intro i
 simp only [List.getElem?_map,List.getElem?_zipIdx,Option.map_map,Nat.zero_add]
 cases hi:ps[i]? with
 |none=>rfl
 |some p=>
  have h1:(ps.map (·.1))[i]?=some p.1:=by rw [List.getElem?_map,hi];rfl
  rw [hp] at h1
  obtain ⟨hl,he⟩:=List.getElem?_eq_some_iff.1 h1
  simp only [List.getElem_range] at he
  simp [he]
theorem elD_of {t el:TypeId} (ht:E.P.underlying t=some (.slice el)):elD E t=el:=by
 unfold elD elemOf
 rw [ht]
theorem sim_buildSlice {t:TypeId} {n:Nat} {ps:Array (Nat×Operand)} (hs:Shows vw h) (ho:o.op=.buildSlice t n ps)
  (hD:∀m k,elTy E t=some k→deepM E t k=some m→elFits E t k=true→n=vs.length→n≤1000→ps.toList.map (·.1)=List.range n→evBuildSliceD m k site vw vs pk=some (v,u,ks)→Sim E.P o site vs h v u ks) (e:evBuildSlice E t n (ps.toList.map (·.1)) site vw vs pk=some (v,u,ks)):Sim E.P o site vs h v u ks:=by
 unfold evBuildSlice at e
 split at e
 ·rename_i k hk
  replace e:=cond_some e
  obtain ⟨hf,e⟩:=e
  simp only [Bool.and_eq_true] at hf
  obtain ⟨⟨⟨hf,hn⟩,hn1⟩,hr⟩:=hf
  have hn:=nbeq_eq.1 hn
  have hn1:=Nat.le_of_ble_eq_true hn1
  have hr:=of_decide_eq_true hr
  have hff:=hf
  obtain ⟨el,inf,z,ht,hinf,hsz,hpos,hag,hby,-,hz,hzs,-⟩:=elFits_some hf
  split at e
  ·rename_i m hm
   exact hD m k hk hm hff hn hn1 hr e
  split at e
  ·rename_i xs us hx
   cases e
   refine sim_newRow hpos (fun σ w a inv r=>?_)
   rw [elD_of ht]
   have hops:o.op.operands.toList.map a.eval=ps.toList.map fun p=>a.eval p.2:=by simp [ho,Op.operands]
   rw [hops] at r
   obtain ⟨fz',hc,hts⟩:=coes_sound hx hs inv r
   obtain ⟨hcells,hsizes,hlen⟩:=hts.cells
   have hvl:vs.length=(ps.toList.map fun p=>a.eval p.2).length:=r.length
   have hxl:xs.length=n:=by rw [hlen,hn,hvl]
   have hparts:(ps.map fun p=>(p.1,a.eval p.2)).toList=((ps.toList.map fun p=>a.eval p.2).zipIdx 0).map fun x=>(x.2,x.1):=by
    rw [Array.toList_map];exact range_zip ps.toList n a.eval hr
   by_cases h0:n=0
   ·have hnil:ps.toList=[]:=by
     have:ps.toList.length=0:=by rw [←List.length_map (f:=fun p=>a.eval p.2),←hvl,←hn,h0]
     exact List.eq_nil_of_length_eq_zero this
    have hpe:ps=#[]:=by simpa using hnil
    have hxn:xs=[]:=List.eq_nil_of_length_eq_zero (by rw [hxl,h0])
    subst hxn
    refine ⟨fz',w.alloc (.cells #[] el),.slice (some ⟨w.heap.size,0,none⟩) 0 0,[],?_,hc,World.grownBy_alloc w _ none,fun b hb=>by simp [blk] at hb;omega,?_,trivial⟩
    ·simp only [execOp,ho]
     simp [Instr.buildSlice,run_underlying ht,sizeOf,typeInfo,hinf,h0,hpe,Instr.fill,newRow,Array.range_zero']
    ·exact ⟨by simp,.inr ⟨w.heap.size,0,#[],rfl,Nat.zero_le _,heap_alloc_new w _,Nat.le_refl _,Nat.zero_le _,by simp,by simp⟩⟩
   ·have hsize:n*nCells k=(ps.toList.map fun p=>a.eval p.2).length*nCells k:=by rw [hn,hvl]
    obtain ⟨cells,hfill,hcs,hk⟩:=Great.fill_dense (s:=nCells k) hpos (ps.toList.map fun p=>a.eval p.2) 0 ((Array.range (n*nCells k)).map (z.cells[·%z.cells.size]!)) hsizes (by simp only [Nat.zero_add,Array.size_map,Array.size_range,hsize];exact Nat.le_refl _)
    have hsmall:n*nCells k≤2^24:=by
     have:nCells k≤1000:=by
      cases k with
      |st i=>rcases i with _|_|_|_|_|_|i<;>simp [nCells,fieldTys]
      |_=>simp [nCells]
     calc n*nCells k≤1000*1000:=Nat.mul_le_mul hn1 this
      _≤2^24:=by decide
    have hne:n*nCells k≠0:=Nat.mul_ne_zero h0 (by omega)
    have hrun:=run_buildSlice (P:=E.P) w t el n (ps.map fun p=>(p.1,a.eval p.2)) cells inf z ht hinf hz (by rw [hsz];omega) (by rw [hsz];exact hne) (by rw [hsz,hparts];exact hfill)
    have hflat:cells.toList=(ps.toList.map fun p=>a.eval p.2).flatMap fun v=>v.cells.toList:=by
     apply List.ext_getElem?
     intro i
     rw [Great.flat_get hpos _ hsizes i,Array.getElem?_toList,hk i]
     simp only [Nat.zero_mul,Nat.zero_le,true_and,Nat.zero_add,Nat.sub_zero]
     split
     ·rfl
     ·rename_i hlt
      rw [Array.getElem?_eq_none (by simp only [Array.size_map,Array.size_range,hsize];omega)]
      have:(ps.toList.map fun p=>a.eval p.2)[i/nCells k]?=none:=by
       apply List.getElem?_eq_none
       exact (Nat.le_div_iff_mul_le (by omega)).2 (by omega)
      rw [this];rfl
    refine ⟨fz',w.alloc (.cells cells el),.slice (some ⟨w.heap.size,0,none⟩) n n,cells.toList,?_,hc,World.grownBy_alloc w _ none,fun b hb=>by simp [blk] at hb;omega,?_,by rw [hflat];exact hcells⟩
    ·simp only [execOp,ho]
     simp [hrun]
    ·have hcsz:cells.size=n*nCells k:=by rw [hcs];simp
     refine ⟨by rw [Array.length_toList,hcsz,hxl],.inr ⟨w.heap.size,n,cells,by rw [hxl],Nat.zero_le _,heap_alloc_new w _,by rw [hxl];exact Nat.le_refl _,by unfold maxLen;omega,hcsz,?_⟩⟩
     rw [hxl,List.take_of_length_le (by rw [Array.length_toList,hcsz];exact Nat.le_refl _)]
  ·cases e
 ·cases e
end
end Go.Proofs.YtfdcjocallblcaaGreatDoor.Ev
