/- Operations in any order stand for the machine's: the join. Conditions: what functions tell (Φ) is sound; the program's regions that draw are carried out in any order. -/
import Derived.Test.YtfdcjocallblcaaGreatDoorEvQ
namespace Go.Proofs.YtfdcjocallblcaaGreatDoor.Ev
open Go
section
variable {σ : Sg} {h h' : H} {w : World}
theorem repA_eqv (e:∀o,H.get o h'=H.get o h) {a:AV} {c:Value} (r:RepA σ h w a c):RepA σ h' w a c:=
 RepA.mono (fun _ h=>h) (fun _ _=>rfl) a c (fun o _=>sameO_eq (e o) rfl) r
theorem repAs_eqv (e:∀o,H.get o h'=H.get o h) {a:List AV} {c:List Value} (r:RepAs σ h w a c):RepAs σ h' w a c:=
 RepAs.mono (fun _ h=>h) (fun _ _=>rfl) a c (fun o _=>sameO_eq (e o) rfl) r
theorem live_eqv (e:∀o,H.get o h'=H.get o h) {o:Nat} (l:Own h' o):Own h o:=(own_eq (e o)).1 l
theorem inv_eqv (e:∀o,H.get o h'=H.get o h) (n:NoD h') (inv:Inv σ h w):Inv σ h' w where
 objs o x g:=by
  have h1:=inv.objs o x (by rw [←e];exact g)
  cases x with
  |box cs=>
   obtain ⟨b,vs,ty,h2,h3,h4⟩:=h1
   exact ⟨b,vs,ty,h2,h3,repAs_eqv e h4⟩
  |row el t xs=>exact h1
  |map _ _ _=>exact h1
  |cel _ _=>exact h1
  |ice t xs=>exact h1
  |deep m t xs q=>exact deep_mono h1 rfl rfl (fun _ _=>rfl) fun i off v c _ r=>repA_eqv e r
 nofz o l:=inv.nofz o (live_eqv e l)
 inj o o' l l':=inv.inj o o' (live_eqv e l) (live_eqv e l')
 fzlt:=inv.fzlt
 nodup:=n
 bsok o x g:=inv.bsok o x (by rw [←e];exact g)
 bslt o l:=inv.bslt o (live_eqv e l)
theorem ext_eqv {σ₀:Sg} {h₀:H} {w₀:World} (e:∀o,H.get o h'=H.get o h) (x:Ext σ₀ h₀ w₀ σ h w):Ext σ₀ h₀ w₀ σ h' w:=
 {x with live:=fun o b l=>x.live o b (live_eqv e l)}
theorem rel_eqv {nt:Nat} {t:T} {out:List Value} {a:Act} (e:∀o,H.get o h'=H.get o h) (r:Rel σ h w nt t out a):Rel σ h' w nt t out a:=
 ⟨repAs_eqv e r.slots,r.size,r.defers⟩
theorem inv_drawn (n:Nat) (inv:Inv σ h w):Inv σ h {w with drawn:=n} where
 objs o x g:=by
  have h1:=inv.objs o x g
  cases x with
  |box cs=>
   obtain ⟨b,vs,ty,h2,h3,h4⟩:=h1
   exact ⟨b,vs,ty,h2,h3,RepAs.mono (w:=w) (w':={w with drawn:=n}) (fun _ h=>h) (fun _ _=>rfl) _ _ (fun o _=>sameO_eq rfl rfl) h4⟩
  |row el t xs=>
   obtain ⟨cs,h2,h3⟩:=h1
   exact ⟨cs,h2,RepPs.mono (w:=w) (w':={w with drawn:=n}) (fun _ h=>h) (fun _ _=>rfl) h3⟩
  |map _ _ _=>exact map_mono (w':={w with drawn:=n}) h1 rfl (fun _ h=>h) (fun _ _=>rfl) fun _ _=>rfl
  |cel _ _=>exact cel_mono (w':={w with drawn:=n}) h1 rfl (fun _ h=>h) (fun _ _=>rfl)
  |ice t xs=>exact RepP.mono (w:=w) (w':={w with drawn:=n}) (fun _ h=>h) (fun _ _=>rfl) h1
  |deep m t xs q=>exact deep_mono (w':={w with drawn:=n}) h1 rfl rfl (fun _ _=>rfl) fun i off v c _ r=>RepA.mono (w:=w) (w':={w with drawn:=n}) (fun _ h=>h) (fun _ _=>rfl) _ _ (fun o _=>sameO_eq rfl rfl) r
 nofz:=inv.nofz
 inj:=inv.inj
 fzlt:=inv.fzlt
 nodup:=inv.nodup
 bsok:=inv.bsok
 bslt:=inv.bslt
theorem ext_drawn (n:Nat):Ext σ h w σ h {w with drawn:=n}:=
 ⟨rfl,rfl,rfl,Nat.le_refl _,fun _ h=>h,fun _ _ _=>rfl,fun _ h=>.inl h,fun o b l e=>.inl ⟨o,l,e⟩⟩
theorem rel_drawn {nt:Nat} {t:T} {out:List Value} {a:Act} (n:Nat) (r:Rel σ h w nt t out a):Rel σ h {w with drawn:=n} nt t out a:=
 ⟨RepAs.mono (w:=w) (w':={w with drawn:=n}) (fun _ h=>h) (fun _ _=>rfl) _ _ (fun o _=>sameO_eq rfl rfl) r.slots,r.size,r.defers⟩
end
theorem looks_opd {ops:Array Oper} {o:Oper} {t t':T} (h:∀d∈o.looksAt ops,t.at d=t'.at d):opVs o t=opVs o t':=by
 unfold opVs
 refine List.map_congr_left fun x hx=>?_
 cases x with
 |tmp d=>
  refine h d (List.mem_append.2 (.inl ?_))
  exact List.mem_filterMap.2 ⟨.tmp d,hx,rfl⟩
 |_=>rfl
theorem looks_guard {ops:Array Oper} {o:Oper} {j:Nat} {b:Bool} {d:Nat} (hg:o.guard=some (j,b)) (hd:(ops[j]?).bind (·.dst)=some d):d∈o.looksAt ops:=by
 unfold Oper.looksAt
 rw [hg]
 simp only [hd]
 exact List.mem_append.2 (.inr (by simp))
theorem nextIds_congr {h h':H}:∀{l:List Nat},(∀o∈l,H.get o h=H.get o h')→nextIds h l=nextIds h' l
 |[],_=>rfl
 |o::l,e=>by
  simp only [nextIds]
  rw [e o (by simp),nextIds_congr (l:=l) fun o ho=>e o (by simp [ho])]
theorem reach_congr {vs:List AV} {h h':H} (e:∀o∈reach vs h',H.get o h=H.get o h'):reach vs h=reach vs h':=by
 unfold reach
 rw [nextIds_congr fun o ho=>e o (List.mem_append.2 (.inl ho))]
theorem reachO_congr {op:Op} {vs:List AV} {h h':H} (e:∀o∈reachO op vs h',H.get o h=H.get o h'):reachO op vs h=reachO op vs h':=by
 unfold reachO at*
 cases hc:shallow op
 ·rw [hc] at e
  simp only [cond_false] at e⊢
  exact reach_congr e
 ·rfl
theorem view_congr {op:Op} {vs:List AV} {h h':H} (e:∀o∈reachO op vs h',H.get o h=H.get o h'):viewO op vs h=viewO op vs h':=by
 funext i
 unfold viewO
 rw [reachO_congr e]
 cases hc:(reachO op vs h').any (Nat.beq i)
 ·rfl
 ·simp only [cond_true]
  exact e i (memN_iff.1 hc)
section
variable {R : Type} {E : Env} {dep nt : Nat} {out : List Value} {ops : Array Oper}
theorem Good.dst {o:Oper} {c:Rec} {t:T} {h:H} (g:Good E dep ops o c t h):c.dst=o.dst:=by
 cases g with
 |skip j b d hg hd hv hr=>subst hr;rfl
 |run hg hv h1 h2 h3=>exact h1
def setOf (listed:Array Bool):Nat→Bool:=fun i=>listed.getD i false
theorem setOf_false {listed:Array Bool} {j:Nat} (h:listed.getD j true=false):setOf listed j=false:=by
 unfold setOf
 rcases Nat.lt_or_ge j listed.size with h'|h'
 ·simp [h'] at h⊢;exact h
 ·simp [Array.getElem?_eq_none h'] at h
theorem setOf_insert {listed:Array Bool} {j:Nat} (h:j<listed.size) (i:Nat):setOf (listed.setIfInBounds j true) i=(Nat.beq i j||setOf listed i):=by
 unfold setOf
 by_cases hij:i=j
 ·subst hij;simp [h]
 ·rw [nbeq_ne.2 hij,Bool.false_or,getD_set_ne false (Ne.symm hij)]
theorem all_listed (ho:Order ops) {listed:Array Bool} (hs:listed.size=ops.size) (hr:Region.ready .any ops listed=[]):∀i,i<ops.size→setOf listed i=true:=by
 intro i
 induction i using Nat.strongRecOn with
 |_ i ih=>
  intro hi
  cases hc:setOf listed i with
  |true=>rfl
  |false=>
   exfalso
   have hm:i∈Region.ready .any ops listed:=by
    rw [mem_ready]
    refine ⟨?_,ops[i],by simp [hi],fun e he hb=>?_⟩
    ·unfold setOf at hc
     have:i<listed.size:=by omega
     simp [this] at hc⊢;exact hc
    ·have hlt:=ho.back i ops[i] (by simp [hi]) e he hb
     exact ih e.on hlt (by omega)
   rw [hr] at hm;cases hm
theorem ready_all {listed:Array Bool} (h:∀i,i<ops.size→setOf listed i=true):Region.ready .any ops listed=[]:=by
 cases hr:Region.ready .any ops listed with
 |nil=>rfl
 |cons i l=>
  exfalso
  have hm:i∈Region.ready .any ops listed:=by rw [hr];simp
  obtain ⟨h0,o,ho,-⟩:=mem_ready.1 hm
  have h1:=h i (Array.getElem?_eq_some_iff.1 ho).1
  rw [setOf_false h0] at h1;cases h1
def left (n:Nat) (s:Nat→Bool):Nat:=((List.range n).filter fun i=>!s i).length
theorem left_zero {n:Nat} {s:Nat→Bool} (h:left n s=0):∀i,i<n→s i=true:=by
 intro i hi
 have h1:=List.eq_nil_of_length_eq_zero h
 rw [List.filter_eq_nil_iff] at h1
 have:=h1 i (List.mem_range.2 hi)
 simpa using this
theorem left_insert {n:Nat} {s s':Nat→Bool} {j:Nat} (hj:j<n) (h:s j=false) (hs:∀i,s' i=(Nat.beq i j||s i)):left n s'<left n s:=by
 unfold left
 have key:∀l:List Nat,((l.filter fun i=>!s' i).length≤(l.filter fun i=>!s i).length)∧(j∈l→(l.filter fun i=>!s' i).length<(l.filter fun i=>!s i).length):=by
  intro l
  induction l with
  |nil=>simp
  |cons i l ih=>
   by_cases hij:i=j
   ·subst hij
    have h1:s' i=true:=by rw [hs,Nat.beq_refl];rfl
    simp only [List.filter_cons,h1,h,Bool.not_true,Bool.not_false,if_true,Bool.false_eq_true,if_false,List.length_cons]
    exact ⟨by omega,fun _=>by omega⟩
   ·have h1:s' i=s i:=by rw [hs,nbeq_ne.2 hij];rfl
    simp only [List.filter_cons,h1]
    constructor
    ·have:=ih.1
     split
     ·rw [List.length_cons,List.length_cons];omega
     ·exact this
    ·intro hm
     have:=ih.2 ((List.mem_cons.1 hm).resolve_left (Ne.symm hij))
     split
     ·rw [List.length_cons,List.length_cons];omega
     ·exact this
 exact (key (List.range n)).2 (List.mem_range.2 hj)
theorem any_sound (hΦ:SoundΦ E) (hmix:E.P.follows .mixedOrders=true) (hok:ops.toList.all (operOk nt)=true) {id:Nat} {t₀:T} {h₀:H} {κ:T→H→Option R} {r:R} (e:evAny E dep ops t₀ h₀ κ=some r)
  {σ₀:Sg} {w₀:World} {a₀:Act} (inv₀:Inv σ₀ h₀ w₀) (rel₀:Rel σ₀ h₀ w₀ nt t₀ out a₀) (Q:Exit→Act→World→Prop)
  (hn:∀σ' t' h' w' a',κ t' h'=some r→Ext σ₀ h₀ w₀ σ' h' w'→Inv σ' h' w'→Rel σ' h' w' nt t' out a'→Q .normal a' w'):(Code.region id ops true).wp E.P Q a₀ w₀:=by
 unfold evAny at e
 obtain ⟨hord,e⟩:=cond_some e
 have ho:=orderOk_spec hord
 obtain ⟨rs,hlen,hk,good⟩:=evOpsR_spec hok ops.toList t₀ h₀ [] (rel_len rel₀) e
 rw [List.nil_append] at hk
 obtain ⟨hfine,hk⟩:=cond_some hk
 have hfine:=recsOk_spec hfine
 have n₀:NoD h₀:=inv₀.nodup
 have hsz:rs.length=ops.size:=by rw [hlen,Array.length_toList]
 have bef:=before_pres ops
 have pair:∀i j x y,i<j→rs[i]?=some x→rs[j]?=some y→i∉(pres ops.toList []).getD j []→∃ox oy,ops[i]?=some ox∧ops[j]?=some oy∧ox.apart ops oy=true∧Indep x y:=by
  intro i j x y hij hx hy hno
  have hi:i<ops.size:=by rw [←hsz];exact (List.getElem?_eq_some_iff.1 hx).1
  have hj:j<ops.size:=by rw [←hsz];exact (List.getElem?_eq_some_iff.1 hy).1
  refine ⟨ops[i],ops[j],by simp [hi],by simp [hj],?_,?_⟩
  ·exact (ho.apart i j _ _ hij (by simp [hi]) (by simp [hj])).resolve_left hno
  ·exact indep_spec ((hfine.ind i j x y hij hx hy).resolve_left hno)
 have goodAt:∀j o c,ops[j]?=some o→rs[j]?=some c→Good E dep ops o c (foldR (t₀,h₀) (rs.take j)).1 (foldR (t₀,h₀) (rs.take j)).2:=fun j o c h1 h2=>
  good j o c (by rw [Array.getElem?_toList];exact h1) h2
 have main:∀(fuel:Nat) (listed:Array Bool) (σ:Sg) (w:World) (a:Act),listed.size=ops.size→Closed ops (setOf listed)→left ops.size (setOf listed)≤fuel→
   Ext σ₀ h₀ w₀ σ (foldR (t₀,h₀) (sel (setOf listed) 0 rs)).2 w→Inv σ (foldR (t₀,h₀) (sel (setOf listed) 0 rs)).2 w→Rel σ (foldR (t₀,h₀) (sel (setOf listed) 0 rs)).2 w nt (foldR (t₀,h₀) (sel (setOf listed) 0 rs)).1 out a→
   wpAny E.P .any ops Q fuel listed a w:=by
  intro fuel
  induction fuel with
  |zero=>
   intro listed σ w a hls hcl hleft hext hinv hrel
   have hall:=left_zero (Nat.le_zero.1 hleft)
   refine ⟨ready_all hall,?_⟩
   have hse:sel (setOf listed) 0 rs=rs:=sel_all _ _ fun i _ h2=>hall i (by omega)
   rw [hse] at hext hinv hrel
   exact hn σ _ _ w a hk hext hinv hrel
  |succ fuel ih=>
   intro listed σ w a hls hcl hleft hext hinv hrel
   refine ⟨fun hr=>?_,fun j hj=>?_⟩
   ·have hall:=all_listed ho hls hr
    have hse:sel (setOf listed) 0 rs=rs:=sel_all _ _ fun i _ h2=>hall i (by omega)
    rw [hse] at hext hinv hrel
    exact hn σ _ _ w a hk hext hinv hrel
   ·obtain ⟨hjl,o,hoj,hedges⟩:=mem_ready.1 hj
    have hjs:=setOf_false hjl
    have hjlt:j<ops.size:=(Array.getElem?_eq_some_iff.1 hoj).1
    have hjr:j<rs.length:=by omega
    obtain ⟨c,hc⟩:∃c,rs[j]?=some c:=⟨rs[j],by simp [hjr]⟩
    have hedges':∀e∈o.after,Region.binds .any e=true→setOf listed e.on=true:=hedges
    have later:∀i x,j<i→rs[i]?=some x→setOf listed i=true→∃ox,ops[i]?=some ox∧o.apart ops ox=true∧Indep c x:=by
     intro i x hji hx hs
     have hno:j∉(pres ops.toList []).getD i []:=fun hm=>by
      have hi:i<ops.size:=by rw [←hsz];exact (List.getElem?_eq_some_iff.1 hx).1
      have:=bef i j hm (setOf listed) ops[i] hcl (by simp [hi]) (fun e he hb=>hcl i ops[i] (by simp [hi]) hs e he hb)
      rw [hjs] at this;cases this
     obtain ⟨oy,ox,h1,h2,h3,h4⟩:=pair j i c x hji hc hx hno
     rw [hoj] at h1
     obtain rfl:=Option.some.inj h1
     exact ⟨ox,h2,h3,h4⟩
    have earlier:∀i x,i<j→rs[i]?=some x→setOf listed i=false→∃ox,ops[i]?=some ox∧ox.apart ops o=true∧Indep x c:=by
     intro i x hij hx hs
     have hno:i∉(pres ops.toList []).getD j []:=fun hm=>by
      have:=bef j i hm (setOf listed) o hcl hoj hedges'
      rw [hs] at this;cases this
     obtain ⟨ox,oy,h1,h2,h3,h4⟩:=pair i j x c hij hx hc hno
     rw [hoj] at h2
     obtain rfl:=Option.some.inj h2
     exact ⟨ox,h1,h3,h4⟩
    have hgood:=goodAt j o c hoj hc
    have hagr:Agr (o.looksAt ops) c.reads (foldR (t₀,h₀) (sel (setOf listed) 0 rs)) (foldR (t₀,h₀) (rs.take j)):=by
     have hmid:∀i,(setOf listed i&&decide (i<j))=true→setOf listed i=true:=fun i h=>(Bool.and_eq_true _ _▸h).1
     have hmid':∀i,(setOf listed i&&decide (i<j))=true→decide (i<j)=true:=fun i h=>(Bool.and_eq_true _ _▸h).2
     have base:Agr (o.looksAt ops) c.reads (t₀,h₀) (t₀,h₀):=⟨rfl,fun _ _=>rfl,fun _ _=>rfl⟩
     have g1:=Agr.sels (s:=setOf listed) (s':=fun i=>setOf listed i&&decide (i<j)) rs 0 base n₀ n₀ hmid (fun i x hx hs hs'=>by
      rw [Nat.zero_add] at hs hs'
      have hji:j<i:=by
       simp only [hs,Bool.true_and,decide_eq_false_iff_not] at hs'
       have:i≠j:=fun h=>by rw [h,hjs] at hs;cases hs
       omega
      obtain ⟨ox,h1,h2,h3⟩:=later i x hji hx hs
      have hd:=(goodAt i ox x h1 hx).dst
      exact ⟨h3.ky,fun d hd'=>(Oper.apart_spec h2).2.2 d (by rw [←hd];exact hd'),h3.c⟩)
     have g2:=Agr.sels (s:=fun i=>decide (i<j)) (s':=fun i=>setOf listed i&&decide (i<j)) rs 0 base n₀ n₀ hmid' (fun i x hx hs hs'=>by
      rw [Nat.zero_add] at hs hs'
      have hij:i<j:=of_decide_eq_true hs
      simp only [hs,Bool.and_true] at hs'
      obtain ⟨ox,h1,h2,h3⟩:=earlier i x hij hx hs'
      have hd:=(goodAt i ox x h1 hx).dst
      exact ⟨h3.kx,fun d hd'=>(Oper.apart_spec h2).1 d (by rw [←hd];exact hd'),h3.a⟩)
     rw [sel_take rs j (by omega)] at g2
     exact ⟨g1.len.trans g2.len.symm,fun d hd=>(g1.slots d hd).trans (g2.slots d hd).symm,fun o ho=>(g1.objs o ho).trans (g2.objs o ho).symm⟩
    have hset:∀i,setOf (listed.setIfInBounds j true) i=(Nat.beq i j||setOf listed i):=setOf_insert (by omega)
    have hins:=insert_eqv (s:=setOf listed) (s':=setOf (listed.setIfInBounds j true)) hc hjs hset (p:=(t₀,h₀)) n₀ (fun i y hji hy hs=>by
     obtain ⟨ox,h1,h2,h3⟩:=later i y hji hy hs
     have hd:=(goodAt i ox y h1 hy).dst
     refine ⟨h3.kx,h3.ky,fun d hd'=>?_,h3.b⟩
     rw [hd]
     exact (Oper.apart_spec h2).2.1 d (by rw [←hgood.dst];exact hd'))
    have hcl':Closed ops (setOf (listed.setIfInBounds j true)):=by
     intro i oi hi hs e he hb
     rw [hset] at hs⊢
     rw [Bool.or_eq_true] at hs⊢
     rcases hs with hs|hs
     ·obtain rfl:=nbeq_eq.1 hs
      rw [hoj] at hi
      obtain rfl:=Option.some.inj hi
      exact .inr (hedges' e he hb)
     ·exact .inr (hcl i oi hi hs e he hb)
    have hleft':left ops.size (setOf (listed.setIfInBounds j true))≤fuel:=by
     have:=left_insert hjlt hjs hset
     omega
    have hnod:NoD (foldR (t₀,h₀) (sel (setOf (listed.setIfInBounds j true)) 0 rs)).2:=foldR_nod _ n₀
    have next:∀σ' w' a',Ext σ₀ h₀ w₀ σ' (stepR (foldR (t₀,h₀) (sel (setOf listed) 0 rs)) c).2 w'→Inv σ' (stepR (foldR (t₀,h₀) (sel (setOf listed) 0 rs)) c).2 w'→
      Rel σ' (stepR (foldR (t₀,h₀) (sel (setOf listed) 0 rs)) c).2 w' nt (stepR (foldR (t₀,h₀) (sel (setOf listed) 0 rs)) c).1 out a'→wpAny E.P .any ops Q fuel (listed.setIfInBounds j true) a' w':=by
     intro σ' w' a' hext' hinv' hrel'
     refine ih _ σ' w' a' (by simp [hls]) hcl' hleft' (ext_eqv hins.2 hext') (inv_eqv hins.2 hnod hinv') ?_
     rw [hins.1]
     exact rel_eqv hins.2 hrel'
    unfold wpOp
    simp only [hoj]
    have hoo:=List.all_eq_true.1 hok o (Array.mem_toList_iff.2 (Array.mem_of_getElem? hoj))
    have hoo':=hoo
    unfold operOk at hoo'
    simp only [Bool.and_eq_true] at hoo'
    cases hgood with
    |skip i b d hg hd hv hr=>
     have hdn:=dst_lt hok hd
     have hdl:=hagr.slots d (looks_guard hg hd)
     have hw:Region.wanted o (yielded ops a.tmps)=false:=by
      unfold Region.wanted;rw [hg]
      rcases hv with ⟨x,hx,hne⟩|hx
      ·rw [←hdl] at hx
       simp [guard_tv hrel hd hdn hx,hne]
      ·rw [←hdl] at hx
       simp [guard_und hrel hd hdn hx]
     rw [if_neg (by rw [hw];simp)]
     subst hr
     exact next σ w _ hext hinv (put_rel hrel hoo'.2 rfl)
    |run hg hv h1 h2 h3=>
     have hw:Region.wanted o (yielded ops a.tmps)=true:=by
      unfold Region.wanted
      rcases hg with hg|⟨i,b,d,hg,hd,hx⟩
      ·rw [hg]
      ·rw [hg]
       have hdn:=dst_lt hok hd
       rw [←hagr.slots d (looks_guard hg hd)] at hx
       simp [guard_tv hrel hd hdn hx]
     rw [if_pos hw]
     refine .inl ?_
     have hvs:=looks_opd hagr.slots
     rw [←hvs] at hv h3
     have hvw:=view_congr (op:=o.op) (vs:=opVs o (foldR (t₀,h₀) (sel (setOf listed) 0 rs)).1) (h:=(foldR (t₀,h₀) (sel (setOf listed) 0 rs)).2) (h':=(foldR (t₀,h₀) (rs.take j)).2) (fun o ho=>hagr.objs o (by rw [h3];exact ho))
     rw [←hvw] at hv
     have hnew:(∃x,(siteOf dep o,x)∈c.u)→siteOf dep o∉AV.idsL (foldR (t₀,h₀) (sel (setOf listed) 0 rs)).1++H.ids (foldR (t₀,h₀) (sel (setOf listed) 0 rs)).2:=by
      rintro ⟨x,hx⟩ hm
      have hu:c.used=true:=by
       unfold Rec.used
       rw [memN_iff,h2]
       exact List.mem_map.2 ⟨_,hx,rfl⟩
      rcases foldR_ids _ _ _ hm with hm|⟨y,hy,hm⟩
      ·exact hfine.start j c hc hu (by rw [h2];exact hm)
      ·obtain ⟨i,hi,hs⟩:=mem_sel _ _ hy
       rw [Nat.zero_add] at hs
       rcases Nat.lt_trichotomy i j with hij|rfl|hij
       ·exact hfine.out i j y c hij hi hc hu (by rw [h2];exact hm)
       ·rw [hjs] at hs;cases hs
       ·obtain ⟨ox,-,-,h4⟩:=later i y hij hi hs
        exact h4.d hu (by rw [h2];exact hm)
     have hnew':=fun hx=>(not_or.1 (fun hm=>hnew hx (List.mem_append.2 hm)))
     refine evVal_sim hΦ (viewO_shows _ _ _) hv (fun hx=>⟨(hnew' hx).2,fun hm=>(hnew' hx).1 (opds_ids _ _ _ hm)⟩) σ w a hinv (opds_rep hrel hoo'.1) _ _ ?_
     intro σ' w' cv hp
     refine next σ' w' _ (hext.trans hp.ext) hp.inv ?_
     have hrel':=rel_post hrel hoo'.2 hp fun hx=>(hnew' hx).1
     unfold stepR
     simp only [h1]
     exact hrel'
 refine wp_region_any hmix (main ops.size (Array.replicate ops.size false) σ₀ {w₀ with drawn:=w₀.drawn+1} a₀ (by simp) ?_ ?_ ?_ ?_ ?_)
 ·intro j o hj hs
  unfold setOf at hs
  rcases Nat.lt_or_ge j ops.size with h'|h'
  ·simp [h'] at hs
  ·simp [Array.getElem?_eq_none (xs:=Array.replicate ops.size false) (by simpa using h')] at hs
 ·unfold left
  exact Nat.le_trans (List.length_filter_le _ _) (by simp)
 all_goals
  have hse:sel (setOf (Array.replicate ops.size false)) 0 rs=[]:=sel_nil _ _ fun i _ h2=>by
   unfold setOf
   have:i<ops.size:=by omega
   simp [this]
  rw [hse]
 ·exact ext_drawn _
 ·exact inv_drawn _ inv₀
 ·exact rel_drawn _ rel₀
end
end Go.Proofs.YtfdcjocallblcaaGreatDoor.Ev
