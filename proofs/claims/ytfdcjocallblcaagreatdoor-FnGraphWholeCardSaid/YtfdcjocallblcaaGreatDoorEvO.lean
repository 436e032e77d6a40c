/- Operations in text order stand for the machine's. Condition: what functions tell (Φ) is sound. -/
import Derived.Test.YtfdcjocallblcaaGreatDoorEvN
namespace Go.Proofs.YtfdcjocallblcaaGreatDoor.Ev
open Go
structure Rel (σ:Sg) (h:H) (w:World) (nt:Nat) (t:T) (out:List Value) (a:Act):Prop where
 slots:RepAs σ h w t (a.tmps.toList++out)
 size:a.tmps.size=nt
 defers:a.defers=[]
theorem RepAs.imp {σ σ':Sg} {h h':H} {w w':World}:∀{l:List AV} {vs:List Value},(∀a∈l,∀c,RepA σ h w a c→RepA σ' h' w' a c)→RepAs σ h w l vs→RepAs σ' h' w' l vs
 |[],[],_,_=>trivial
 |a::l,v::vs,f,r=>⟨f a (by simp) v r.1,RepAs.imp (fun a ha=>f a (by simp [ha])) r.2⟩
 |[],_::_,_,r=>r.elim
 |_::_,[],_,r=>r.elim
theorem ids_mem:∀{l:List AV} {a:AV},a∈l→∀i∈a.ids,i∈AV.idsL l
 |b::l,a,h,i,hi=>by
  simp only [AV.idsL,List.mem_append]
  rcases List.mem_cons.1 h with rfl|h
  ·exact .inl hi
  ·exact .inr (ids_mem h i hi)
theorem mem_idsL:∀{l:List AV} {i:Nat},i∈AV.idsL l→∃a∈l,i∈a.ids
 |a::l,i,h=>by
  simp only [AV.idsL,List.mem_append] at h
  rcases h with h|h
  ·exact ⟨a,by simp,h⟩
  ·obtain ⟨b,hb,hi⟩:=mem_idsL h
   exact ⟨b,by simp [hb],hi⟩
section
variable {σ : Sg} {h : H} {w : World} {nt : Nat} {t : T} {out : List Value} {a : Act}
theorem Rel.slot (r:Rel σ h w nt t out a) {i:Nat} (hi:i<nt):∃c,a.tmps[i]?=some c∧RepA σ h w (t.at i) c:=by
 have hs:i<a.tmps.size:=by rw [r.size];exact hi
 refine ⟨a.tmps[i],by simp [hs],?_⟩
 have hl:i<t.length:=by
  have:=r.slots.len
  rw [this,List.length_append,Array.length_toList]
  omega
 refine RepAs.at r.slots i _ _ ?_ ?_
 ·unfold T.at
  rw [List.getD_eq_getElem?_getD,List.getElem?_eq_getElem hl];rfl
 ·rw [List.getElem?_append_left (by rw [Array.length_toList];exact hs),Array.getElem?_toList];simp [hs]
theorem opd_rep (r:Rel σ h w nt t out a) {x:Operand} (hx:opdOk nt x=true):RepA σ h w (opd t x) (a.eval x):=by
 cases x with
 |tmp i=>
  have hi:i<nt:=Nat.le_of_ble_eq_true hx
  obtain ⟨c,hc,hr⟩:=r.slot hi
  have:a.eval (.tmp i)=c:=by simp only [Act.eval,Array.getD_eq_getD_getElem?,hc,Option.getD_some]
  rw [this];exact hr
 |const v=>exact valAV_rep v
 |func f=>exact ⟨#[],rfl,trivial⟩
 |global g=>trivial
theorem opds_rep (r:Rel σ h w nt t out a):∀{l:List Operand},l.all (opdOk nt)=true→RepAs σ h w (l.map (opd t)) (l.map a.eval)
 |[],_=>trivial
 |x::l,hl=>by
  simp only [List.all_cons,Bool.and_eq_true] at hl
  exact ⟨opd_rep r hl.1,opds_rep r hl.2⟩
theorem opd_ids (t:T) (x:Operand):∀i∈(opd t x).ids,i∈AV.idsL t:=by
 cases x with
 |tmp j=>
  intro i hi
  simp only [opd,T.at,List.getD_eq_getElem?_getD] at hi
  cases hj:t[j]? with
  |none=>rw [hj] at hi;simp [AV.ids] at hi
  |some v=>
   rw [hj] at hi
   exact ids_mem (List.mem_of_getElem? hj) i hi
 |const v=>intro i hi;simp [opd,valAV_ids] at hi
 |func f=>intro i hi;simp [opd,AV.ids,AV.idsL] at hi
 |global g=>intro i hi;simp [opd,AV.ids] at hi
theorem opds_ids (t:T):∀(l:List Operand),∀i∈AV.idsL (l.map (opd t)),i∈AV.idsL t
 |[],i,hi=>by simp [AV.idsL] at hi
 |x::l,i,hi=>by
  simp only [List.map_cons,AV.idsL,List.mem_append] at hi
  rcases hi with hi|hi
  ·exact opd_ids t x i hi
  ·exact opds_ids t l i hi
theorem put_rel (r:Rel σ h w nt t out a) {d:Option Nat} (hd:dstOk nt d=true) {v:AV} {c:Value} (hv:RepA σ h w v c):Rel σ h w nt (t.put d v) out (a.put d c):=by
 cases d with
 |none=>exact r
 |some d=>
  have hd:d<nt:=Nat.le_of_ble_eq_true hd
  refine ⟨?_,by simp [Act.put,r.size],r.defers⟩
  have hs:(a.put (some d) c).tmps.toList++out=(a.tmps.toList++out).set d c:=by
   have hlt:d<a.tmps.toList.length:=by rw [Array.length_toList,r.size];exact hd
   rw [List.set_append_left _ _ hlt]
   simp [Act.put]
  rw [hs]
  exact RepAs.set r.slots d hv
theorem killT_ids (ks:List Nat):∀(t:T),∀i∈AV.idsL (killT ks t),i∈AV.idsL t∧i∉ks:=by
 induction ks with
 |nil=>intro t i hi;exact ⟨hi,by simp⟩
 |cons k ks ih=>
  intro t i hi
  simp only [killT] at hi
  have h1:=ih _ i hi
  have h2:=AV.idsL_kill k t i h1.1
  exact ⟨h2.1,by simp [h2.2,h1.2]⟩
theorem killT_rep (ks:List Nat):∀{t:T} {vs:List Value},RepAs σ h w t vs→RepAs σ h w (killT ks t) vs:=by
 induction ks with
 |nil=>intro t vs r;exact r
 |cons k ks ih=>intro t vs r;exact ih (RepAs.kill k t vs r)
theorem fresh_spec (t:T) (h:H) (site:Nat):∀(u:Upd),fresh t h site u=true→(∃x,(site,x)∈u)→site∉AV.idsL t∧site∉H.ids h
 |[],_,⟨_,hx⟩=>by simp at hx
 |(o,x)::r,e,⟨y,hy⟩=>by
  simp only [fresh,Bool.and_eq_true] at e
  rcases List.mem_cons.1 hy with hy|hy
  ·obtain ⟨rfl,-⟩:=Prod.mk.inj hy
   have h1:=e.1
   rw [Nat.beq_refl] at h1
   simp only [cond_true,Bool.not_eq_true'] at h1
   have h2:site∉AV.idsL t++H.ids h:=fun hm=>by
    rw [List.any_eq_false] at h1
    exact h1 _ hm (Nat.beq_refl site)
   simpa [not_or] using h2
  ·exact fresh_spec t h site r e.2 ⟨y,hy⟩
end
theorem viewOf_shows (vs:List AV) (h:H):Shows (viewOf vs h) h:=by
 intro q y e
 unfold viewOf at e
 cases hc:(reach vs h).any (Nat.beq q)
 ·rw [hc] at e;cases e
 ·rw [hc] at e;exact e
theorem viewO_shows (op:Op) (vs:List AV) (h:H):Shows (viewO op vs h) h:=by
 intro q y e
 unfold viewO at e
 cases hc:(reachO op vs h).any (Nat.beq q)
 ·rw [hc] at e;cases e
 ·rw [hc] at e;exact e
def CallISound {R:Type} (P:Program) (callI:CallI R):Prop:=
 ∀(f:Nat) (args:List AV) (t:T) (h:H) (κ:AV→T→H→Option R) (r:R),callI f args t h κ=some r→
  ∀(σ:Sg) (w:World) (cargs:Array Value) (vals:List Value),Inv σ h w→RepAs σ h w args cargs.toList→RepAs σ h w t vals→
   Callable P f∧Calls P f cargs w fun e w'=>∃cv σ' v t' h',e=.returned cv∧κ v t' h'=some r∧Ext σ h w σ' h' w'∧Inv σ' h' w'∧RepA σ' h' w' v cv∧RepAs σ' h' w' t' vals
section
variable {R : Type} {E : Env} {callI : CallI R} {dep nt : Nat} {out : List Value}
theorem inlOf_some {E:Env} {op:Op} {vs:List AV} {f:Nat} {args:List AV} (e:inlOf E op vs=some (f,args)):∃(c:Call) (x:Operand) (rest caps:List AV),op=.call c∧c.callee=.value x∧vs=.fn f caps::rest∧args=rest++caps:=by
 unfold inlOf at e
 split at e
 ·rename_i c
  split at e
  ·rename_i x hx
   split at e
   ·rename_i g rest
    split at e
    ·rename_i f' cs hi
     unfold isInl at hi
     split at hi
     ·rename_i f'' cs'
      replace hi:=cond_some hi
      obtain ⟨-,hi⟩:=hi
      cases hi
      cases e
      exact ⟨c,x,rest,cs,rfl,hx,rfl,rfl⟩
     ·cases hi
    ·cases e
   ·cases e
  ·cases e
 ·cases e
theorem rel_post {σ:Sg} {h:H} {w:World} {t:T} {a:Act} {v:AV} {u:Upd} {ks:List Nat} {site:Nat} {σ':Sg} {w':World} {cv:Value} {d:Option Nat} (r:Rel σ h w nt t out a) (hd:dstOk nt d=true)
  (hp:Post σ h w site v u ks σ' w' cv) (hs:(∃x,(site,x)∈u)→site∉AV.idsL t):Rel σ' ((killH ks h).apply u) w' nt ((killT ks t).put d v) out (a.put d cv):=by
 refine put_rel ⟨?_,r.size,r.defers⟩ hd hp.rep
 refine RepAs.imp (fun b hb c rb=>hp.keep b c (fun o ho=>?_) rb) (killT_rep ks r.slots)
 have hk:=killT_ids ks t o (ids_mem hb o ho)
 exact ⟨hk.2,fun e x hx=>hs ⟨x,hx⟩ (e▸hk.1)⟩
theorem op_sound (hΦ:SoundΦ E) (hI:CallISound E.P callI) {o:Oper} (hok:operOk nt o=true) {t:T} {h:H} {κ:T→H→Option R} {r:R} (e:evOp E callI dep o t h κ=some r)
  {σ:Sg} {w:World} {a:Act} (inv:Inv σ h w) (rel:Rel σ h w nt t out a) (next:Act→World→Prop) (Q:Exit→Act→World→Prop)
  (hn:∀σ' t' h' w' a',κ t' h'=some r→Ext σ h w σ' h' w'→Inv σ' h' w'→Rel σ' h' w' nt t' out a'→next a' w'):o.wp E.P a w next Q:=by
 unfold operOk at hok
 simp only [Bool.and_eq_true] at hok
 have hops:=opds_rep rel hok.1
 unfold evOp at e
 dsimp only at e
 split at e
 ·rename_i f args hin
  obtain ⟨c,x,rest,caps,hc,hx,hvs,rfl⟩:=inlOf_some hin
  rw [hvs] at hops
  have hopl:o.op.operands.toList=x::c.args.toList:=by simp [hc,Op.operands,Call.operands,hx]
  rw [hopl,List.map_cons] at hops
  obtain ⟨⟨cv,hcv,hcaps⟩,hargs⟩:=hops
  have hall:RepAs σ h w (rest++caps) (c.args.map a.eval++cv).toList:=by
   rw [Array.toList_append,Array.toList_map];exact hargs.app hcaps
  obtain ⟨hcall,hsim⟩:=hI f (rest++caps) t h _ r e σ w (c.args.map a.eval++cv) (a.tmps.toList++out) inv hall rel.slots
  have hrun:(execOp a.eval o).run E.P w=.ok (.enter f (c.args.map a.eval++cv)) w:=by
   have hr:=run_callFunc hcall (c.args.map a.eval++cv) w
   simp [execOp,hc,resolve,hx,hcv,Deferred.ofValue,invoke,hr]
  unfold Oper.wp
  rw [hrun,Oper.upon_enter]
  refine Calls.mono hsim ?_
  rintro e' w' ⟨cv',σ',v,t',h',rfl,hk,hext,hinv,hrv,hrt⟩
  exact hn σ' _ h' w' _ hk hext hinv (put_rel ⟨hrt,rel.size,rel.defers⟩ hok.2 hrv)
 ·rw [evVal_bind] at e
  cases hv:evVal E o (dep+o.dst.getD 999) (o.op.operands.toList.map (opd t)) (viewOf (o.op.operands.toList.map (opd t)) h) pk with
  |none=>rw [hv] at e;cases e
  |some p=>
   obtain ⟨v,u,ks⟩:=p
   rw [hv] at e
   change (bif fresh t h (dep+o.dst.getD 999) u then κ ((killT ks t).put o.dst v) ((killH ks h).apply u) else none)=some r at e
   obtain ⟨hf,e⟩:=cond_some e
   have hfr:=fresh_spec t h _ u hf
   refine evVal_sim hΦ (viewOf_shows _ _) hv (fun hx=>⟨(hfr hx).2,fun hm=>(hfr hx).1 (opds_ids t _ _ hm)⟩) σ w a inv hops next Q ?_
   intro σ' w' cv hp
   exact hn σ' _ _ w' _ e hp.ext hp.inv (rel_post rel hok.2 hp fun hx=>(hfr hx).1)
theorem at_put_self {t:T} {d:Nat} {v:AV} (e:t.at d=v) (hd:d<t.length):t.put (some d) v=t:=by
 subst e
 simp [T.put,T.at,hd]
theorem rel_len {σ:Sg} {h:H} {w:World} {t:T} {a:Act} (r:Rel σ h w nt t out a):nt≤t.length:=by
 rw [r.slots.len,List.length_append,Array.length_toList,r.size];omega
theorem yielded_of {ops:Array Oper} {a:Act} {j d:Nat} (hd:(ops[j]?).bind (·.dst)=some d) {c:Value} (hc:a.tmps[d]?=some c):yielded ops a.tmps j=match c with|.bool b=>some b|_=>none:=by
 unfold yielded
 rw [hd]
 simp only [Option.bind_some,hc]
 cases c<;>rfl
theorem guard_tv {σ:Sg} {h:H} {w:World} {t:T} {a:Act} {ops:Array Oper} (rel:Rel σ h w nt t out a) {j d:Nat} (hdst:(ops[j]?).bind (·.dst)=some d) (hd:d<nt) {x:Bool} (e:t.at d=.tv .bool x):yielded ops a.tmps j=some x:=by
 obtain ⟨c,hc,hr⟩:=rel.slot hd
 rw [e] at hr
 have:=repT_bool hr
 subst this
 rw [yielded_of hdst hc]
theorem guard_und {σ:Sg} {h:H} {w:World} {t:T} {a:Act} {ops:Array Oper} (rel:Rel σ h w nt t out a) {j d:Nat} (hdst:(ops[j]?).bind (·.dst)=some d) (hd:d<nt) (e:t.at d=.und):yielded ops a.tmps j=none:=by
 obtain ⟨c,hc,hr⟩:=rel.slot hd
 rw [e] at hr
 have:c=undef:=hr
 subst this
 rw [yielded_of hdst hc];rfl
theorem dst_lt {ops:Array Oper} (hok:ops.toList.all (operOk nt)=true) {j d:Nat} (hd:(ops[j]?).bind (·.dst)=some d):d<nt:=by
 cases ho:ops[j]? with
 |none=>rw [ho] at hd;cases hd
 |some o=>
  rw [ho] at hd
  have hm:o∈ops.toList:=by rw [Array.mem_toList_iff];exact Array.mem_of_getElem? ho
  have h1:=List.all_eq_true.1 hok o hm
  unfold operOk at h1
  simp only [Bool.and_eq_true] at h1
  have h2:=h1.2
  have hd:o.dst=some d:=hd
  rw [hd] at h2
  exact Nat.le_of_ble_eq_true h2
theorem ops_sound (hΦ:SoundΦ E) (hI:CallISound E.P callI) {ops:Array Oper} (hok:ops.toList.all (operOk nt)=true) {κ:T→H→Option R} {r:R} (Q:Exit→Act→World→Prop):
  ∀(l:List Oper) (k:Nat) (t:T) (h:H) (σ:Sg) (w:World) (a:Act),ops.toList.drop k=l→evOps E callI dep ops l t h κ=some r→Inv σ h w→Rel σ h w nt t out a→
   (∀σ' t' h' w' a',κ t' h'=some r→Ext σ h w σ' h' w'→Inv σ' h' w'→Rel σ' h' w' nt t' out a'→Q .normal a' w')→wpOps E.P ops Q (List.range' k l.length) a w:=by
 intro l
 induction l with
 |nil=>intro k t h σ w a _ e inv rel hn;exact hn σ t h w a e (Ext.refl _ _ _) inv rel
 |cons o l ih=>
  intro k t h σ w a hl e inv rel hn
  have hko:ops[k]?=some o:=by
   have:=congrArg List.head? hl
   rw [List.head?_drop,Array.getElem?_toList] at this
   exact this
  have hl':ops.toList.drop (k+1)=l:=by
   rw [←List.drop_drop,hl];rfl
  have hm:o∈ops.toList:=by rw [Array.mem_toList_iff];exact Array.mem_of_getElem? hko
  have hoo:=List.all_eq_true.1 hok o hm
  have hod:dstOk nt o.dst=true:=by unfold operOk at hoo;simp only [Bool.and_eq_true] at hoo;exact hoo.2
  rw [List.length_cons,List.range'_succ]
  simp only [wpOps,hko]
  have doit:∀{t:T},Region.wanted o (yielded ops a.tmps)=true→Rel σ h w nt t out a→evOp E callI dep o t h (fun t h=>evOps E callI dep ops l t h κ)=some r→
    (if Region.wanted o (yielded ops a.tmps) then o.wp E.P a w (wpOps E.P ops Q (List.range' (k+1) l.length)) Q∨(o.asks E.P a w∧LetsOut Q) else wpOps E.P ops Q (List.range' (k+1) l.length) (a.put o.dst undef) w):=by
   intro t hw rel e
   rw [if_pos hw]
   refine .inl (op_sound hΦ hI hoo e inv rel _ _ fun σ' t' h' w' a' hk hext hinv hrel=>?_)
   exact ih (k+1) t' h' σ' w' a' hl' hk hinv hrel fun σ'' t'' h'' w'' a'' hk' hext' hinv' hrel'=>hn σ'' t'' h'' w'' a'' hk' (hext.trans hext') hinv' hrel'
  have skip:∀{t:T},Region.wanted o (yielded ops a.tmps)=false→Rel σ h w nt t out a→evOps E callI dep ops l (t.put o.dst .und) h κ=some r→
    (if Region.wanted o (yielded ops a.tmps) then o.wp E.P a w (wpOps E.P ops Q (List.range' (k+1) l.length)) Q∨(o.asks E.P a w∧LetsOut Q) else wpOps E.P ops Q (List.range' (k+1) l.length) (a.put o.dst undef) w):=by
   intro t hw rel e
   rw [if_neg (by rw [hw];simp)]
   exact ih (k+1) _ h σ w _ hl' e inv (put_rel rel hod rfl) hn
  unfold evOps at e
  split at e
  ·rename_i hg
   exact doit (by unfold Region.wanted;rw [hg]) rel e
  ·rename_i j b hg
   split at e
   ·cases e
   ·rename_i d hd
    have hdn:=dst_lt hok hd
    split at e
    ·rename_i x hx
     have hy:=guard_tv rel hd hdn hx
     have hlen:=Nat.lt_of_lt_of_le hdn (rel_len rel)
     cases x
     ·simp only [cond_false] at e
      rw [at_put_self hx hlen] at e
      cases b
      ·simp only [cond_false] at e
       exact doit (by unfold Region.wanted;rw [hg];simp [hy]) rel e
      ·simp only [cond_true] at e
       exact skip (by unfold Region.wanted;rw [hg];simp [hy]) rel e
     ·simp only [cond_true] at e
      rw [at_put_self hx hlen] at e
      cases b
      ·simp only [cond_false] at e
       exact skip (by unfold Region.wanted;rw [hg];simp [hy]) rel e
      ·simp only [cond_true] at e
       exact doit (by unfold Region.wanted;rw [hg];simp [hy]) rel e
    ·rename_i hx
     have hy:=guard_und rel hd hdn hx
     exact skip (by unfold Region.wanted;rw [hg];simp [hy]) rel e
    ·cases e
end
end Go.Proofs.YtfdcjocallblcaaGreatDoor.Ev
