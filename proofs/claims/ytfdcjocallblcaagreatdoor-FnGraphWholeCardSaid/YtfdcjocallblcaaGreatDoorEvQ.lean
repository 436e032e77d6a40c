/- Operations in any order stand for the machine's. Condition: what functions tell (Φ) is sound. -/
import Derived.Test.YtfdcjocallblcaaGreatDoorEvP
namespace Go.Proofs.YtfdcjocallblcaaGreatDoor.Ev
open Go
theorem bindsB_eq (e:Edge):bindsB e=Region.binds .any e:=by
 unfold bindsB Region.binds
 cases e.ground<;>rfl
theorem memN_false {i:Nat} {l:List Nat}:memN i l=false↔i∉l:=by rw [←Bool.not_eq_true,memN_iff]
theorem disj_spec {a b:List Nat} (h:disj a b=true):∀i∈a,i∉b:=by
 intro i hi hb
 have:=List.all_eq_true.1 h i hi
 rw [Bool.not_eq_true',memN_false] at this
 exact this hb
theorem mem_unionN {i:Nat} {b:List Nat}:∀{a:List Nat},i∈unionN a b→i∈a∨i∈b
 |[],h=>.inr h
 |x::a,h=>by
  unfold unionN at h
  rw [List.foldr_cons] at h
  cases hm:memN x (List.foldr (fun i s=>bif memN i s then s else i::s) b a)
  ·rw [hm,cond_false] at h
   rcases List.mem_cons.1 h with rfl|h
   ·exact .inl (by simp)
   ·rcases mem_unionN (a:=a) h with h|h
    ·exact .inl (by simp [h])
    ·exact .inr h
  ·rw [hm,cond_true] at h
   rcases mem_unionN (a:=a) h with h|h
   ·exact .inl (by simp [h])
   ·exact .inr h
def Closed (ops:Array Oper) (s:Nat→Bool):Prop:=∀j o,ops[j]?=some o→s j=true→∀e∈o.after,Region.binds .any e=true→s e.on=true
def Before (ops:Array Oper) (i j:Nat):Prop:=∀s o,Closed ops s→ops[j]?=some o→(∀e∈o.after,Region.binds .any e=true→s e.on=true)→s i=true
theorem pre1_spec {ops:Array Oper} {j:Nat} {o:Oper} {acc:List (List Nat)} (ho:ops[j]?=some o) (hlen:acc.length≤ops.size) (h:∀k,∀i∈acc.getD k [],Before ops i k):∀i∈pre1 acc o,Before ops i j:=by
 have key:∀(l:List Edge),(∀e∈l,e∈o.after)→∀i∈l.foldr (fun e s=>bif bindsB e then unionN (e.on::acc.getD e.on []) s else s) [],Before ops i j:=by
  intro l
  induction l with
  |nil=>intro _ i hi;simp at hi
  |cons e l ih=>
   intro hl i hi
   rw [List.foldr_cons] at hi
   cases hb:bindsB e
   ·rw [hb,cond_false] at hi
    exact ih (fun e he=>hl e (by simp [he])) i hi
   ·rw [hb,cond_true] at hi
    rcases mem_unionN hi with hi|hi
    ·intro s o' hc ho' hd
     rw [ho] at ho'
     obtain rfl:=Option.some.inj ho'
     have he:=hd e (hl e (by simp)) (by rw [←bindsB_eq];exact hb)
     rcases List.mem_cons.1 hi with rfl|hi
     ·exact he
     ·cases hoe:ops[e.on]? with
      |none=>
       have h1:ops.size≤e.on:=by simpa using hoe
       rw [List.getD_eq_getElem?_getD,List.getElem?_eq_none (by omega)] at hi
       simp at hi
      |some o''=>exact h e.on i hi s o'' hc hoe fun e' he' hb'=>hc e.on o'' hoe he e' he' hb'
    ·exact ih (fun e he=>hl e (by simp [he])) i hi
 exact key o.after.toList (fun e he=>Array.mem_toList_iff.1 he)
theorem pres_spec {ops:Array Oper}:∀(l:List Oper) (acc:List (List Nat)),ops.toList.drop acc.length=l→acc.length≤ops.size→(∀k,∀i∈acc.getD k [],Before ops i k)→∀k,∀i∈(pres l acc).getD k [],Before ops i k
 |[],acc,_,_,h=>h
 |o::l,acc,hd,hlen,h=>by
  have hko:ops[acc.length]?=some o:=by
   have:=congrArg List.head? hd
   rw [List.head?_drop,Array.getElem?_toList] at this
   exact this
  have hlt:acc.length<ops.size:=(Array.getElem?_eq_some_iff.1 hko).1
  have hd':ops.toList.drop (acc.length+1)=l:=by rw [←List.drop_drop,hd];rfl
  refine pres_spec l (acc++[pre1 acc o]) (by simpa using hd') (by simp;omega) fun k i hi=>?_
  rw [List.getD_eq_getElem?_getD] at hi
  by_cases hk:k<acc.length
  ·rw [List.getElem?_append_left hk,←List.getD_eq_getElem?_getD] at hi
   exact h k i hi
  ·rw [List.getElem?_append_right (by omega)] at hi
   by_cases hk':k=acc.length
   ·subst hk'
    rw [Nat.sub_self] at hi
    exact pre1_spec hko hlen h i hi
   ·rw [List.getElem?_eq_none (by simp;omega)] at hi
    simp at hi
theorem before_pres (ops:Array Oper):∀k,∀i∈(pres ops.toList []).getD k [],Before ops i k:=
 pres_spec ops.toList [] rfl (by simp) (by intro k i hi;simp at hi)
structure Order (ops:Array Oper):Prop where
 back:∀j o,ops[j]?=some o→∀e∈o.after,Region.binds .any e=true→e.on<j
 apart:∀i j x y,i<j→ops[i]?=some x→ops[j]?=some y→i∈(pres ops.toList []).getD j []∨x.apart ops y=true
theorem orderOk_spec {ops:Array Oper} (h:orderOk ops=true):Order ops:=by
 have key:∀j o,ops[j]?=some o→(o.after.toList.all (fun e=>!bindsB e||Nat.blt e.on j)=true)∧∀i,i<j→memN i ((pres ops.toList []).getD j [])=true∨∃x,ops[i]?=some x∧x.apart ops o=true:=by
  intro j o ho
  have hlt:j<ops.size:=(Array.getElem?_eq_some_iff.1 ho).1
  have h1:=List.all_eq_true.1 h j (List.mem_range.2 hlt)
  rw [ho] at h1
  simp only [Bool.and_eq_true] at h1
  refine ⟨h1.1,fun i hi=>?_⟩
  have h2:=List.all_eq_true.1 h1.2 i (List.mem_range.2 hi)
  simp only [Bool.or_eq_true] at h2
  rcases h2 with h2|h2
  ·exact .inl h2
  ·cases hx:ops[i]? with
   |none=>rw [hx] at h2;cases h2
   |some x=>rw [hx] at h2;exact .inr ⟨x,rfl,h2⟩
 constructor
 ·intro j o ho e he hb
  have h1:=List.all_eq_true.1 (key j o ho).1 e (Array.mem_toList_iff.2 he)
  rw [bindsB_eq,hb] at h1
  simp only [Bool.not_true,Bool.false_or] at h1
  exact Nat.le_of_ble_eq_true h1
 ·intro i j x y hij hx hy
  rcases (key j y hy).2 i hij with h1|⟨x',hx',h1⟩
  ·exact .inl (memN_iff.1 h1)
  ·rw [hx] at hx'
   obtain rfl:=Option.some.inj hx'
   exact .inr h1
structure Fine (ids0:List Nat) (ps:List (List Nat)) (rs:List Rec):Prop where
 start:∀(j:Nat) (y:Rec),rs[j]?=some y→y.used=true→y.site∉ids0
 out:∀(i j:Nat) (x y:Rec),i<j→rs[i]?=some x→rs[j]?=some y→y.used=true→y.site∉x.out
 ind:∀(i j:Nat) (x y:Rec),i<j→rs[i]?=some x→rs[j]?=some y→i∈ps.getD j []∨indep x y=true
theorem isNil_iff {α:Type} {l:List α}:isNil l=true↔l=[]:=by cases l<;>simp [isNil]
theorem quiet_used {r:Rec} (h:r.quiet=true):r.used=false:=by
 unfold Rec.quiet at h
 simp only [Bool.and_eq_true,isNil_iff] at h
 unfold Rec.used keysU
 rw [h.1];rfl
theorem recsOk_spec {ids0:List Nat} {ps:List (List Nat)} {rs:List Rec} (h:recsOk ids0 ps rs=true):Fine ids0 ps rs:=by
 unfold recsOk at h
 cases hq:rs.all Rec.quiet
 ·rw [hq,cond_false] at h
  have key:∀(j:Nat) (y:Rec),rs[j]?=some y→((bif y.used then !memN y.site ids0 else true)=true)∧∀(i:Nat) (x:Rec),i<j→rs[i]?=some x→((bif y.used then !memN y.site x.out else true)=true)∧(memN i (ps.getD j [])=true∨Ev.indep x y=true):=by
   intro j y hy
   have hlt:j<rs.length:=(List.getElem?_eq_some_iff.1 hy).1
   have h1:=List.all_eq_true.1 h j (List.mem_range.2 hlt)
   rw [hy] at h1
   simp only [Bool.and_eq_true] at h1
   refine ⟨h1.1,fun i x hi hx=>?_⟩
   have h2:=List.all_eq_true.1 h1.2 i (List.mem_range.2 hi)
   rw [hx] at h2
   simp only [Bool.and_eq_true,Bool.or_eq_true] at h2
   exact h2
  constructor
  ·intro j y hy hu
   have h1:=(key j y hy).1
   rw [hu,cond_true,Bool.not_eq_true',memN_false] at h1
   exact h1
  ·intro i j x y hij hx hy hu
   have h1:=((key j y hy).2 i x hij hx).1
   rw [hu,cond_true,Bool.not_eq_true',memN_false] at h1
   exact h1
  ·intro i j x y hij hx hy
   exact ((key j y hy).2 i x hij hx).2.imp (fun h=>memN_iff.1 h) id
 ·have hq:∀(j:Nat) (y:Rec),rs[j]?=some y→y.quiet=true:=fun j y hy=>List.all_eq_true.1 hq y (List.mem_of_getElem? hy)
  constructor
  ·intro j y hy hu;rw [quiet_used (hq j y hy)] at hu;cases hu
  ·intro i j x y _ _ hy hu;rw [quiet_used (hq j y hy)] at hu;cases hu
  ·intro i j x y _ hx hy
   refine .inr ?_
   have h1:=hq i x hx
   have h2:=hq j y hy
   have h3:=quiet_used h1
   unfold Rec.quiet at h1 h2
   simp only [Bool.and_eq_true,isNil_iff] at h1 h2
   unfold Ev.indep
   simp [h1,h2,h3,isNil,disj,keysU]
structure Indep (x y:Rec):Prop where
 kx:x.ks=[]
 ky:y.ks=[]
 a:∀o∈keysU x.u,o∉y.reads
 b:∀o∈keysU x.u,o∉keysU y.u
 c:∀o∈keysU y.u,o∉x.reads
 d:x.used=true→x.site∉y.out
theorem indep_spec {x y:Rec} (h:indep x y=true):Indep x y:=by
 unfold indep at h
 simp only [Bool.and_eq_true,isNil_iff] at h
 obtain ⟨⟨⟨⟨h1,h2⟩,h3⟩,h4⟩,h5⟩:=h
 have h3:=disj_spec h3
 refine ⟨h1,h2,fun o ho hr=>h3 o ho (List.mem_append.2 (.inl hr)),fun o ho hr=>h3 o ho (List.mem_append.2 (.inr hr)),disj_spec h4,fun hu=>?_⟩
 rw [hu,cond_true,Bool.not_eq_true',memN_false] at h5
 exact h5
section
variable {R : Type} (E : Env) (dep : Nat) (ops : Array Oper)
def opVs (o:Oper) (t:T):List AV:=o.op.operands.toList.map (opd t)
def siteOf (o:Oper):Nat:=dep+o.dst.getD 999
inductive Good (o:Oper) (r:Rec) (t:T) (h:H):Prop
 |skip (j:Nat) (b:Bool) (d:Nat) (hg:o.guard=some (j,b)) (hd:(ops[j]?).bind (·.dst)=some d) (hv:(∃x,t.at d=.tv .bool x∧x≠b)∨t.at d=.und) (hr:r=⟨o.dst,0,[],.und,[],[]⟩)
 |run (hg:o.guard=none∨∃j b d,o.guard=some (j,b)∧(ops[j]?).bind (·.dst)=some d∧t.at d=.tv .bool b)
   (hv:evVal E o (siteOf dep o) (opVs o t) (viewO o.op (opVs o t) h) pk=some (r.v,r.u,r.ks)) (h1:r.dst=o.dst) (h2:r.site=siteOf dep o) (h3:r.reads=reachO o.op (opVs o t) h)
variable {E dep ops}
theorem evOpR_spec {o:Oper} {t:T} {h:H} {κ:Rec→T→H→Option R} {r:R} (e:evOpR E dep o t h κ=some r):
  ∃c:Rec,κ c (stepR (t,h) c).1 (stepR (t,h) c).2=some r∧evVal E o (siteOf dep o) (opVs o t) (viewO o.op (opVs o t) h) pk=some (c.v,c.u,c.ks)∧c.dst=o.dst∧c.site=siteOf dep o∧c.reads=reachO o.op (opVs o t) h:=by
 unfold evOpR at e
 dsimp only at e
 split at e
 ·cases e
 ·rw [evVal_bind] at e
  cases hv:evVal E o (dep+o.dst.getD 999) (o.op.operands.toList.map (opd t)) (viewO o.op (o.op.operands.toList.map (opd t)) h) pk with
  |none=>rw [hv] at e;cases e
  |some p=>
   obtain ⟨v,u,ks⟩:=p
   rw [hv] at e
   exact ⟨⟨o.dst,dep+o.dst.getD 999,reachO o.op (o.op.operands.toList.map (opd t)) h,v,u,ks⟩,e,hv,rfl,rfl,rfl⟩
theorem evOpsR_spec {nt:Nat} (hok:ops.toList.all (operOk nt)=true) {κ:List Rec→T→H→Option R} {r:R}:∀(l:List Oper) (t:T) (h:H) (acc:List Rec),nt≤t.length→evOpsR E dep ops l t h acc κ=some r→
  ∃rs:List Rec,rs.length=l.length∧κ (acc++rs) (foldR (t,h) rs).1 (foldR (t,h) rs).2=some r∧
   ∀i o c,l[i]?=some o→rs[i]?=some c→Good E dep ops o c (foldR (t,h) (rs.take i)).1 (foldR (t,h) (rs.take i)).2:=by
 intro l
 induction l with
 |nil=>intro t h acc _ e;exact ⟨[],rfl,by rw [List.append_nil];exact e,fun i o c hi=>by simp at hi⟩
 |cons o l ih=>
  intro t h acc hlen e
  have step:∀c:Rec,Good E dep ops o c t h→evOpsR E dep ops l (stepR (t,h) c).1 (stepR (t,h) c).2 (acc++[c]) κ=some r→
    ∃rs:List Rec,rs.length=(o::l).length∧κ (acc++rs) (foldR (t,h) rs).1 (foldR (t,h) rs).2=some r∧
     ∀i o' c,(o::l)[i]?=some o'→rs[i]?=some c→Good E dep ops o' c (foldR (t,h) (rs.take i)).1 (foldR (t,h) (rs.take i)).2:=by
   intro c hc e
   obtain ⟨rs,h1,h2,h3⟩:=ih _ _ _ (by rw [stepR_length];exact hlen) e
   refine ⟨c::rs,by simp [h1],by rw [List.append_assoc] at h2;exact h2,fun i o' c' hi hc'=>?_⟩
   cases i with
   |zero=>
    obtain rfl:=Option.some.inj hi
    obtain rfl:=Option.some.inj hc'
    exact hc
   |succ i=>exact h3 i o' c' (by simpa using hi) (by simpa using hc')
  have skip:∀{j:Nat} {b:Bool} {d:Nat},o.guard=some (j,b)→(ops[j]?).bind (·.dst)=some d→((∃x,t.at d=.tv .bool x∧x≠b)∨t.at d=.und)→
    evOpsR E dep ops l (t.put o.dst .und) h (acc++[⟨o.dst,0,[],.und,[],[]⟩]) κ=some r→∃rs:List Rec,rs.length=(o::l).length∧κ (acc++rs) (foldR (t,h) rs).1 (foldR (t,h) rs).2=some r∧
     ∀i o' c,(o::l)[i]?=some o'→rs[i]?=some c→Good E dep ops o' c (foldR (t,h) (rs.take i)).1 (foldR (t,h) (rs.take i)).2:=fun {j b d} hg hd hv e=>step ⟨o.dst,0,[],.und,[],[]⟩ (.skip j b d hg hd hv rfl) e
  have run:(o.guard=none∨∃j b d,o.guard=some (j,b)∧(ops[j]?).bind (·.dst)=some d∧t.at d=.tv .bool b)→
    (evOpR E dep o t h fun c t h=>evOpsR E dep ops l t h (acc++[c]) κ)=some r→∃rs:List Rec,rs.length=(o::l).length∧κ (acc++rs) (foldR (t,h) rs).1 (foldR (t,h) rs).2=some r∧
     ∀i o' c,(o::l)[i]?=some o'→rs[i]?=some c→Good E dep ops o' c (foldR (t,h) (rs.take i)).1 (foldR (t,h) (rs.take i)).2:=fun hg e=>by
   obtain ⟨c,hk,hv,h1,h2,h3⟩:=evOpR_spec e
   exact step c (.run hg hv h1 h2 h3) hk
  unfold evOpsR at e
  split at e
  ·rename_i hg
   exact run (.inl hg) e
  ·rename_i j b hg
   split at e
   ·cases e
   ·rename_i d hd
    have hdl:=Nat.lt_of_lt_of_le (dst_lt hok hd) hlen
    split at e
    ·rename_i x hx
     cases x
     ·simp only [cond_false] at e
      rw [at_put_self hx hdl] at e
      cases b
      ·simp only [cond_false] at e
       exact run (.inr ⟨j,false,d,hg,hd,hx⟩) e
      ·simp only [cond_true] at e
       exact skip hg hd (.inl ⟨false,hx,by simp⟩) e
     ·simp only [cond_true] at e
      rw [at_put_self hx hdl] at e
      cases b
      ·simp only [cond_false] at e
       exact skip hg hd (.inl ⟨true,hx,by simp⟩) e
      ·simp only [cond_true] at e
       exact run (.inr ⟨j,true,d,hg,hd,hx⟩) e
    ·rename_i hx
     exact skip hg hd (.inr hx) e
    ·cases e
end
end Go.Proofs.YtfdcjocallblcaaGreatDoor.Ev
