/- One operation of the evaluator stands for the machine's: append. No conditions. -/
import Derived.Test.YtfdcjocallblcaaGreatDoorEvK
import Derived.Maps.AppendAt
namespace Go.Proofs.YtfdcjocallblcaaGreatDoor.Ev
open Go
theorem flatMap_get {α β:Type} (f:α→List β) (z:Nat) (hp:0<z):∀(xs:List α),(∀x∈xs,(f x).length=z)→∀q,(xs.flatMap f)[q]?=(xs[q/z]?).bind fun x=>(f x)[q%z]?
 |[],_,q=>by simp
 |x::xs,hz,q=>by
  have hx:(f x).length=z:=hz x (by simp)
  rw [List.flatMap_cons]
  by_cases h:q<z
  ·rw [List.getElem?_append_left (by omega),Nat.div_eq_of_lt h,Nat.mod_eq_of_lt h];rfl
  ·have hd:q/z=(q-z)/z+1:=by
    have:=Nat.sub_add_cancel (Nat.le_of_not_lt h)
    rw [←this,Nat.add_sub_cancel,Nat.add_div_right _ hp]
   rw [List.getElem?_append_right (by omega),hx,flatMap_get f z hp xs (fun x hx=>hz x (by simp [hx])) (q-z),hd,List.getElem?_cons_succ,Nat.mod_eq_sub_mod (by omega:q≥z)]
section
variable {σ : Sg} {h : H} {w : World} {vw : View}
theorem sl_cells {fz:Nat→Prop} {k:Ty} {xs:List k.den} {v:Value} (hpos:1≤nCells k) (r:RepP fz w (.sl (xs.map (enc k))) v) (hne:0<xs.length):
  ∃b o cap news,v=.slice (some ⟨b,o,none⟩) xs.length cap∧fz b∧news.length=xs.length*nCells k∧RepPs fz w (xs.flatMap (enc k)) news∧∀j u,news[j]?=some u→w.cell? ⟨b,o+j,none⟩=some u:=by
 obtain ⟨b,o,z,cap,c,hv,hcap,hfz,hz,hc,hr⟩:=repP_sl r (by rw [List.length_map];omega)
 rw [List.length_map] at hv hc
 have hzz:nCells k=z:=by
  rw [←enc_length k (xs[0])]
  exact hz _ (List.mem_map.2 ⟨_,List.getElem_mem hne,rfl⟩)
 subst hzz
 have hlen:((List.range (xs.length*nCells k)).map fun q=>c (q/nCells k) (q%nCells k)).length=xs.length*nCells k:=by simp
 refine ⟨b,o,cap,(List.range (xs.length*nCells k)).map fun q=>c (q/nCells k) (q%nCells k),hv,hfz,hlen,RepPs.mk ?_ (fun q p u hp hu=>?_),fun q u hu=>?_⟩
 ·rw [hlen,flatMap_length (enc k) (nCells k) xs (fun x _=>enc_length k x)]
 ·rw [flatMap_get (enc k) (nCells k) hpos xs (fun x _=>enc_length k x)] at hp
  rw [List.getElem?_map] at hu
  cases hx:xs[q/nCells k]? with
  |none=>rw [hx] at hp;cases hp
  |some x=>
   rw [hx] at hp
   simp only [Option.bind_some] at hp
   obtain ⟨hi,hxe⟩:=List.getElem?_eq_some_iff.1 hx
   obtain ⟨hj,hpe⟩:=List.getElem?_eq_some_iff.1 hp
   have:=hr (q/nCells k) (by rw [List.length_map];exact hi) (q%nCells k) (by simp only [List.getElem_map,hxe];exact hj)
   simp only [List.getElem_map,hxe,hpe] at this
   cases hq:(List.range (xs.length*nCells k))[q]? with
   |none=>rw [hq] at hu;cases hu
   |some m=>
    rw [hq] at hu
    obtain ⟨hl,he⟩:=List.getElem?_eq_some_iff.1 hq
    simp only [List.getElem_range] at he
    subst he
    simp only [Option.map_some,Option.some.injEq] at hu
    subst hu
    exact this
 ·rw [List.getElem?_map] at hu
  cases hq:(List.range (xs.length*nCells k))[q]? with
  |none=>rw [hq] at hu;cases hu
  |some m=>
   rw [hq] at hu
   obtain ⟨hl,he⟩:=List.getElem?_eq_some_iff.1 hq
   simp only [List.getElem_range] at he
   subst he
   simp only [Option.map_some,Option.some.injEq] at hu
   subst hu
   have hlt:q<xs.length*nCells k:=by simpa using hl
   have h1:q/nCells k<xs.length:=(Nat.div_lt_iff_lt_mul (by omega)).2 hlt
   have h2:q%nCells k<nCells k:=Nat.mod_lt _ (by omega)
   have:=hc _ _ h1 h2
   have hq:q/nCells k*nCells k+q%nCells k=q:=by rw [Nat.mul_comm];exact Nat.div_add_mod q (nCells k)
   rw [Nat.add_assoc,hq] at this
   exact this
theorem src_tv {k:Ty} {ys:List k.den} {cv:Value} {fz:Nat→Prop} (hpos:1≤nCells k) (r:RepP fz w (.sl (ys.map (enc k))) cv):
  (ys=[]∧∃a c,cv=.slice a 0 c)∨(∃ad c news,cv=.slice (some ad) ys.length c∧news.length=ys.length*nCells k∧RepPs fz w (ys.flatMap (enc k)) news∧∀j u,news[j]?=some u→w.cell? (ad.add j)=some u):=by
 by_cases hne:0<ys.length
 ·obtain ⟨b,o,cap,news,hv,hfz,hl,hr,hc⟩:=sl_cells hpos r hne
  exact .inr ⟨⟨b,o,none⟩,cap,news,hv,hl,hr,fun j u hj=>by rw [Addr.add_lit];exact hc j u hj⟩
 ·have h0:ys=[]:=List.eq_nil_of_length_eq_zero (by omega)
  obtain ⟨a,c,hv⟩:=repP_slv r
  refine .inl ⟨h0,a,c,?_⟩
  rw [hv,List.length_map,h0];rfl
theorem src_cells {k:Ty} {p:AV} {ys:List k.den} {cv:Value} (hpos:1≤nCells k) (hs:Shows vw h) (inv:Inv σ h w) (e:elemsN k vw p=some ys) (r:RepA σ h w p cv):
  (ys=[]∧∃a c,cv=.slice a 0 c)∨(∃ad c news,cv=.slice (some ad) ys.length c∧news.length=ys.length*nCells k∧RepPs σ.fz w (ys.flatMap (enc k)) news∧∀j u,news[j]?=some u→w.cell? (ad.add j)=some u):=by
 unfold elemsN at e
 split at e
 ·obtain rfl:=Option.some.inj e
  have r:cv=.slice none 0 0:=r
  exact .inl ⟨rfl,none,0,r⟩
 ·split at e
  ·rename_i k' ys' hel
   split at e
   ·rename_i hk
    subst hk
    obtain rfl:=Option.some.inj e
    unfold elems at hel
    split at hel
    ·rename_i t0 ys0 _
     obtain ⟨rfl,hx⟩:=Sigma.mk.inj (Option.some.inj hel)
     obtain rfl:=eq_of_heq hx
     exact src_tv hpos r.1
    ·split at hel
     ·rename_i hg
      obtain ⟨rfl,hx⟩:=Sigma.mk.inj (Option.some.inj hel)
      obtain rfl:=eq_of_heq hx
      have hgg:=hs _ _ hg
      obtain ⟨cs,hown,hrep⟩:=inv.objs _ _ hgg
      rw [r.2 (live_of hgg)]
      rcases hown.2 with ⟨hv,hl⟩|⟨b,cap,cur,hv,-⟩
      ·exact .inl ⟨List.eq_nil_of_length_eq_zero hl,none,0,hv⟩
      ·refine .inr ⟨⟨b,0,none⟩,cap,cs,hv,hown.1,hrep,fun j u hj=>?_⟩
       rw [hv] at hown
       rw [Addr.add_lit,Nat.zero_add]
       exact rowCells hown j u hj
     ·rename_i hg
      obtain ⟨rfl,hx⟩:=Sigma.mk.inj (Option.some.inj hel)
      obtain rfl:=eq_of_heq hx
      have hgg:=hs _ _ hg
      rw [r.2 (live_of hgg)]
      exact src_tv hpos (inv.objs _ _ hgg)
     ·cases hel
    ·cases hel
   ·cases e
  ·cases e
theorem run_append_zero {P:Program} {t el:TypeId} {i:TypeInfo} {ty:TypeId} (ht:P.underlying t=some (.slice el)) (hi:P.info? el=some i) (base a:Option Addr) (n cap c:Nat) (hle:n≤cap) (w:World):
  (Builtin.append_ #[t,t] ty #[.slice base n cap,.slice a 0 c]).run P w=.ok (.slice base n cap) w:=by
 cases a<;>cases base<;>simp [Builtin.append_,run_underlying ht,sizeOf,typeInfo,hi,Builtin.lenOf,hle,Builtin.firstCells,loadCells,loadCellsFrom,storeCells]
theorem append_any {P:Program} {t el ty:TypeId} {i:TypeInfo} {z:Value} {k:Ty} {xs ys:List k.den} {v cv:Value} {cs:List Value} (ht:P.underlying t=some (.slice el)) (hi:P.info? el=some i) (hz:i.zero=some z)
  (hsz:i.size=nCells k) (hby:i.bytes≤128) (hzs:z.cells.size=nCells k) (hpos:1≤nCells k) (hown:w.ownsRow 0 el (nCells k) v xs.length cs) (hrep:RepPs σ.fz w (xs.flatMap (enc k)) cs)
  (hsrc:(ys=[]∧∃a c,cv=.slice a 0 c)∨(∃ad c news,cv=.slice (some ad) ys.length c∧news.length=ys.length*nCells k∧RepPs σ.fz w (ys.flatMap (enc k)) news∧∀j u,news[j]?=some u→w.cell? (ad.add j)=some u))
  (hlim:xs.length+ys.length≤lim):∃v' w' cs',(Builtin.append_ #[t,t] ty #[v,cv]).run P w=.ok v' w'∧w'.ownsRow 0 el (nCells k) v' (xs++ys).length cs'∧RepPs σ.fz w ((xs++ys).flatMap (enc k)) cs'∧w.grownBy w' v.ownBlock∧
   (v'.ownBlock=v.ownBlock∨v'.ownBlock=some w.heap.size):=by
 rcases hsrc with ⟨rfl,a,c,rfl⟩|⟨ad,c,news,rfl,hl,hr,hc⟩
 ·rw [List.append_nil]
  refine ⟨v,w,cs,?_,hown,hrep,⟨rfl,rfl,rfl,Nat.le_refl _,fun _ _ _=>rfl⟩,.inl rfl⟩
  rcases hown.2 with ⟨rfl,hn⟩|⟨g,cap,cur,rfl,-,-,hle,-⟩
  ·exact run_append_zero ht hi none a 0 0 c (Nat.le_refl _) w
  ·exact run_append_zero ht hi _ a _ cap c hle w
 ·have h1:(xs.length+ys.length)*i.bytes≤140737488355328:=by
   calc (xs.length+ys.length)*i.bytes≤lim*128:=Nat.mul_le_mul hlim hby
    _=140737488355328:=by decide
  obtain ⟨v',w',hrun,hown',hg,-,hat⟩:=run_append_own_at (P:=P) (w:=w) 0 t ty el i z (nCells k) i.bytes ht hi hz hsz rfl hzs hpos v xs.length cs hown ad ys.length c news hl hc hr.oneCell
   (by unfold maxLen;unfold lim at hlim;omega) h1 (Nat.zero_le _)
  refine ⟨v',w',cs++news,hrun,?_,?_,hg,hat⟩
  ·rw [List.length_append];exact hown'
  ·rw [List.flatMap_append];exact hrep.append hr
theorem Obj.ids_kill (k:Nat) (x:Obj):∀o∈(x.kill k).ids,o∈x.ids∧o≠k:=by
 cases x with
 |box cs=>exact AV.idsL_kill k cs
 |row _ _ _=>simp [Obj.kill,Obj.ids]
 |map _ _ _=>simp [Obj.kill,Obj.ids]
 |cel _ _=>simp [Obj.kill,Obj.ids]
 |ice _ _=>simp [Obj.kill,Obj.ids]
 |deep m t xs q=>cases q with
  |none=>simp [Obj.kill,Obj.ids]
  |some q=>obtain ⟨i,off,v⟩:=q;exact AV.ids_kill k v
theorem own_kill (k o:Nat):Own (H.kill k h) o↔Own h o:=by
 unfold Own
 rw [H.get_kill]
 cases g:H.get o h with
 |none=>simp
 |some x=>cases x with
  |deep m t xs q=>rcases q with _|⟨i,off,v⟩<;>simp [Obj.kill,Obj.isIce]
  |_=>simp [Obj.kill,Obj.isIce]
theorem sameO_kill (k o:Nat):SameO σ σ h (H.kill k h) o:=by
 cases g:H.get o h with
 |none=>exact .inl (by rw [H.get_kill,g];rfl)
 |some x=>
  refine .inr ⟨live_of g,rfl,fun x' q hx hq=>?_⟩
  rw [H.get_kill,g] at hx
  obtain rfl:=Option.some.inj hx
  refine ⟨x,g,?_⟩
  cases x with
  |deep m t xs hole=>rcases hole with _|⟨i,off,v⟩<;>exact hq
  |_=>exact hq
theorem keep_kill (k:Nat) {a:AV} {c:Value} (r:RepA σ h w a c):RepA σ (H.kill k h) w a c:=RepA.mono (fun _ h=>h) (fun _ _=>rfl) a c (fun o _=>sameO_kill k o) r
theorem inv_kill (k:Nat) (inv:Inv σ h w):Inv σ (H.kill k h) w where
 objs o x g:=by
  rw [H.get_kill] at g
  cases g0:H.get o h with
  |none=>rw [g0] at g;cases g
  |some y=>
   rw [g0] at g
   obtain rfl:=Option.some.inj g
   have:=inv.objs o y g0
   cases y with
   |box cs=>
    obtain ⟨b,vs,ty,hv,hb,hc⟩:=this
    exact ⟨b,vs,ty,hv,hb,RepAs.kill k _ _ (RepAs.mono (fun _ h=>h) (fun _ _=>rfl) _ _ (fun o _=>sameO_kill k o) hc)⟩
   |row el t xs=>exact this
   |map _ _ _=>exact this
   |cel _ _=>exact this
   |ice t xs=>exact this
   |deep m t xs q=>
    have key:=deep_mono (σ':=σ) (h':=H.kill k h) this rfl rfl (fun _ _=>rfl) (fun i off v c _ r=>RepA.mono (fun _ h=>h) (fun _ _=>rfl) v c (fun o _=>sameO_kill k o) r)
    rcases q with _|⟨i,off,v⟩
    ·exact key
    ·obtain ⟨cs,bss,h1,h2,h3,h4,h4',h4''⟩:=key
     refine ⟨cs,bss,h1,h2,fun p pv c bs hp hc hb=>?_,h4,h4',fun i' off' v' e=>h4'' i' off' v (by simp at e⊢;exact ⟨e.1,e.2.1⟩)⟩
     have h5:=h3 p pv c bs hp hc hb
     unfold holeAt at h5⊢
     by_cases e:p=i*nCells t+off
     ·simp only [e,if_true] at h5⊢
      exact ⟨h5.1,h5.2.1,RepA.kill k v c h5.2.2⟩
     ·simp only [e,if_false] at h5⊢
      exact h5
 nofz o l:=inv.nofz o ((own_kill k o).1 l)
 inj o o' l l':=inv.inj o o' ((own_kill k o).1 l) ((own_kill k o').1 l')
 fzlt:=inv.fzlt
 nodup:=by rw [H.keys_kill];exact inv.nodup
 bsok o x g d:=by
  rw [H.get_kill] at g
  cases g0:H.get o h with
  |none=>rw [g0] at g;cases g
  |some y=>
   rw [g0] at g
   obtain rfl:=Option.some.inj g
   refine inv.bsok o y g0 ?_
   cases y with
   |deep m t xs q=>rcases q with _|⟨i,off,v⟩<;>cases d
   |cel _ _=>cases d
   |ice _ _=>cases d
   |_=>rfl
 bslt o l:=inv.bslt o ((own_kill k o).1 l)
theorem ext_kill (k:Nat):Ext σ h w σ (H.kill k h) w:=
 ⟨rfl,rfl,rfl,Nat.le_refl _,fun _ h=>h,fun _ _ _=>rfl,fun _ h=>.inl h,fun o b l e=>.inl ⟨o,(own_kill k o).1 l,e⟩⟩
end
section
variable {E : Env} {o : Oper} {site : Nat} {vs : List AV} {h : H} {vw : View} {v : AV} {u : Upd} {ks : List Nat}
theorem sim_append {oper:Oper} {c:Call} {t t':TypeId} {x y:Operand} {p q:AV} (hs:Shows vw h) (ho:oper.op=.call c) (hc:c.callee=.builtin .append) (ha:c.args=#[x,y]) (ht2:c.argTypes=#[t,t'])
  (hD:∀k o m xs,elTy E t=some k→elFits E t k=true→t=t'→ownDeep E t k vw p=some (o,m,xs)→evAppendD o m k vw xs q pk=some (v,u,ks)→Sim E.P oper site [p,q] h v u ks)
  (e:evAppend E t t' site vw p q pk=some (v,u,ks)):Sim E.P oper site [p,q] h v u ks:=by
 have hops:oper.op.operands.toList=[x,y]:=by simp [ho,Op.operands,Call.operands,hc,ha]
 unfold evAppend at e
 split at e
 ·rename_i k hk
  replace e:=cond_some e
  obtain ⟨hf,e⟩:=e
  simp only [Bool.and_eq_true] at hf
  obtain rfl:=nbeq_eq.1 hf.2
  obtain ⟨el,inf,z,ht,hinf,hsz,hpos,hag,hby,-,hz,hzs,hzo⟩:=elFits_some hf.1
  have hex:∀(a:Act),execOp a.eval oper=(do let v ←Builtin.append_ #[t,t] oper.type #[a.eval x,a.eval y];pure (.value v)):=by
   intro a
   simp [execOp,ho,resolve,hc,ha,ht2,invoke,builtin]
  split at e
  ·rename_i o m xs hod
   exact hD k o m xs hk hf.1 rfl hod e
  split at e
  ·rename_i ys hys
   unfold evAppendR at e
   split at e
   ·--nil
    replace e:=cond_some e
    obtain ⟨hl,e⟩:=e
    have hl:=of_decide_eq_true hl
    cases e
    refine sim_newRow (u:=[]) (e:=elD E t) hpos (fun σ w a inv r=>?_)
    rw [elD_of ht]
    rw [hops] at r
    have hv:a.eval x=.slice none 0 0:=r.1
    obtain ⟨v',w',cs',hrun,hown,hrep,hg,hat⟩:=append_any (P:=E.P) (ty:=oper.type) (σ:=σ) (xs:=([]:List k.den)) ht hinf hz hsz hby hzs hpos (World.ownsRow_nil w 0 el (nCells k)) trivial (src_cells hpos hs inv hys r.2.1) (by simpa using hl)
    have hown':=own_slice hown
    obtain ⟨av,cc,hcv⟩:=hown'
    refine ⟨σ.fz,w',v',cs',?_,Coed.refl inv,hg,fun b hb=>?_,hown,hrep⟩
    ·rw [hex,hv];simp [hrun]
    ·rw [blk_own hcv] at hb
     rcases hat with hat|hat
     ·rw [hat] at hb;cases hb
     ·rw [hat] at hb;obtain rfl:=Option.some.inj hb;exact Nat.le_refl _
   ·--a row of one's own
    rename_i ob _
    split at e
    ·rename_i el0 k' xs hg
     split at e
     ·rename_i hkk
      subst hkk
      replace e:=cond_some e
      obtain ⟨hel,e⟩:=e
      obtain rfl:=(nbeq_eq.1 hel).trans (elD_of ht)
      replace e:=cond_some e
      obtain ⟨hl,e⟩:=e
      have hl:=of_decide_eq_true hl
      cases hfr:E.fresh site with
      |true=>
       rw [hfr] at e
       cases e
       intro hsite σ w a inv r next Q hn
       have hsite:=(hsite ⟨_,List.mem_cons_of_mem _ (List.mem_singleton.2 rfl)⟩).1
       rw [hops] at r
       have hgg:=hs _ _ hg
       have hv:=r.1.2 (live_of hgg)
       obtain ⟨cs,hown,hrep⟩:=inv.objs _ _ hgg
       obtain ⟨v',w',cs',hrun,hown',hrep',hgr,hat⟩:=append_any (P:=E.P) (ty:=oper.type) ht hinf hz hsz hby hzs hpos hown hrep (src_cells hpos hs inv hys r.2.1) hl
       have hex':(execOp a.eval oper).run E.P w=.ok (.value v') w':=by rw [hex,hv];simp [hrun]
       refine wp_value hex' (hn (σ.set site v') w' v' ?_)
       obtain ⟨av0,cc0,hv0⟩:=own_slice hown
       obtain ⟨av,cc,hv1⟩:=own_slice hown'
       have fzh:∀b,σ.fz b→w'.heap[b]?=w.heap[b]?:=fun b hb=>hgr.block b (inv.fzlt b hb) fun e=>inv.nofz ob (own_row hgg) b (inv.mem hgg rfl (by rw [blk_own hv0];exact e.symm)) hb
       have hne:ob≠site:=fun e=>hsite (by rw [←e];exact H.ids_of_mem (by
        rcases Classical.em (ob∈h.map (·.1)) with q|q
        ·exact q
        ·rw [H.get_none_of_not_mem ob h q] at hgg;cases hgg))
       have hdel:H.get ob (H.put site (.row el0 k' (xs++ys)) (H.del ob h))=none:=by
        rw [H.get_put_ne _ hne _];exact H.get_del_same ob h inv.nodup
       obtain ⟨e1,e2,e3⟩:=changeG (σ':=σ.set site v') (h':=H.put site (.row el0 k' (xs++ys)) (H.del ob h)) inv site (.row el0 k' (xs++ys))
        (fun i hi=>by
         rw [H.get_put_ne _ hi _]
         by_cases e:i=ob
         ·subst e;exact .inr (H.get_del_same i h inv.nodup)
         ·exact .inl (H.get_del_ne e h))
        (H.get_put_same site _ _) (fun i hi=>Sg.set_ne σ v' hi) (fun i hi=>Sg.bs_ne σ v' hi) rfl
        (H.nodup_put site _ _ (H.nodup_del ob h inv.nodup)) hgr.os hgr.tape hgr.output hgr.size
        (fun b hb hn=>hgr.block b hb fun e=>hn ob (own_row hgg) (.inr hdel) (inv.mem hgg rfl (by rw [blk_own hv0];exact e.symm)))
        (fun b hb=>by
         rw [Sg.bs_same,mem_blk,blk_own hv1] at hb
         refine ⟨?_,(hown'.lt b hb).2⟩
         rcases hat with hat|hat
         ·exact .inl ⟨ob,own_row hgg,inv.mem hgg rfl (by rw [blk_own hv0,←hat];exact hb),.inr hdel⟩
         ·rw [hat] at hb;obtain rfl:=Option.some.inj hb;exact .inr (Nat.le_refl _))
        (fun _=>by rw [Sg.bs_same,Sg.set_same])
        (fun i y g hi hm=>absurd (H.ids_of_get g hm) hsite)
        ⟨cs',by rw [Sg.set_same];exact hown',RepPs.mono (fun _ h=>h) fzh hrep'⟩
       exact ⟨e1,e2,⟨by rw [hv1];rfl,fun _=>(Sg.set_same _ _ _).symm⟩,
        fun b c hb r=>e3 b c (fun hi=>absurd (List.mem_cons_of_mem _ (List.mem_singleton.2 rfl)) ((hb site hi).2 rfl _)) r⟩
      |false=>
      rw [hfr] at e
      cases e
      intro hsite σ w a inv r next Q hn
      rw [hops] at r
      have hgg:=hs _ _ hg
      have hv:=r.1.2 (live_of hgg)
      obtain ⟨cs,hown,hrep⟩:=inv.objs _ _ hgg
      obtain ⟨v',w',cs',hrun,hown',hrep',hgr,hat⟩:=append_any (P:=E.P) (ty:=oper.type) ht hinf hz hsz hby hzs hpos hown hrep (src_cells hpos hs inv hys r.2.1) hl
      have hex':(execOp a.eval oper).run E.P w=.ok (.value v') w':=by rw [hex,hv];simp [hrun]
      refine wp_value hex' (hn (σ.set ob v') w' v' ?_)
      have invk:=inv_kill ob inv
      obtain ⟨av0,cc0,hv0⟩:=own_slice hown
      obtain ⟨av,cc,hv1⟩:=own_slice hown'
      have hlive:Own (H.kill ob h) ob:=(own_kill ob ob).2 (own_row hgg)
      have fzh:∀b,σ.fz b→w'.heap[b]?=w.heap[b]?:=fun b hb=>hgr.block b (inv.fzlt b hb) fun e=>inv.nofz ob (own_row hgg) b (inv.mem hgg rfl (by rw [blk_own hv0];exact e.symm)) hb
      obtain ⟨e1,e2,e3⟩:=change (σ':=σ.set ob v') (h':=H.put ob (.row el0 k' (xs++ys)) (H.kill ob h)) invk ob (.row el0 k' (xs++ys)) (σ.val ob).ownBlock (fun i hi=>H.get_put_ne _ hi _) (H.get_put_same ob _ _) (fun i hi=>Sg.set_ne σ v' hi) (fun i hi=>Sg.bs_ne σ v' hi) rfl
       (H.nodup_put ob _ _ invk.nodup) hgr (fun b hb=>⟨hlive,inv.mem hgg rfl (by rw [blk_own hv0];exact hb)⟩)
       (fun b hb=>by
        rw [Sg.bs_same,mem_blk,blk_own hv1] at hb
        refine ⟨?_,(hown'.lt b hb).2⟩
        rcases hat with hat|hat
        ·exact .inl ⟨hlive,inv.mem hgg rfl (by rw [blk_own hv0,←hat];exact hb)⟩
        ·rw [hat] at hb;obtain rfl:=Option.some.inj hb;exact .inr (Nat.le_refl _))
       (fun _=>by rw [Sg.bs_same,Sg.set_same])
       (fun i y g hi hm=>by
        rw [H.get_kill] at g
        cases g0:H.get i h with
        |none=>rw [g0] at g;cases g
        |some y0=>
         rw [g0] at g
         obtain rfl:=Option.some.inj g
         exact absurd rfl (Obj.ids_kill ob y0 ob hm).2)
       ⟨cs',by rw [Sg.set_same];exact hown',RepPs.mono (fun _ h=>h) fzh hrep'⟩
      exact ⟨(ext_kill ob).trans e1,e2,⟨by rw [hv1];rfl,fun _=>(Sg.set_same _ _ _).symm⟩,
       fun b c hb r=>e3 b c (fun hi=>absurd (List.mem_singleton.2 rfl) (hb ob hi).1) (keep_kill ob r)⟩
     ·cases e
    ·cases e
   ·cases e
  ·cases e
 ·cases e
end
end Go.Proofs.YtfdcjocallblcaaGreatDoor.Ev
