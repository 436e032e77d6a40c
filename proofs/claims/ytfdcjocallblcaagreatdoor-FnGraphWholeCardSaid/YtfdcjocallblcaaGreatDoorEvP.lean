/- Operations in any order stand for the machine's: how the told states fit together. No conditions. -/
import Derived.Test.YtfdcjocallblcaaGreatDoorEvO
namespace Go.Proofs.YtfdcjocallblcaaGreatDoor.Ev
open Go
def stepR (p:T×H) (r:Rec):T×H:=((killT r.ks p.1).put r.dst r.v,(killH r.ks p.2).apply r.u)
def foldR (p:T×H) (l:List Rec):T×H:=l.foldl stepR p
def sel (s:Nat→Bool):Nat→List Rec→List Rec
 |_,[]=>[]
 |k,r::l=>bif s k then r::sel s (k+1) l else sel s (k+1) l
theorem foldR_append (p:T×H) (l l':List Rec):foldR p (l++l')=foldR (foldR p l) l':=List.foldl_append
theorem foldR_cons (p:T×H) (r:Rec) (l:List Rec):foldR p (r::l)=foldR (stepR p r) l:=rfl
theorem sel_append (s:Nat→Bool):∀(l l':List Rec) (k:Nat),sel s k (l++l')=sel s k l++sel s (k+l.length) l'
 |[],l',k=>rfl
 |r::l,l',k=>by
  simp only [List.cons_append,sel,sel_append s l l' (k+1),List.length_cons]
  have:k+1+l.length=k+(l.length+1):=by omega
  rw [this]
  cases s k<;>simp
theorem sel_congr {s s':Nat→Bool}:∀(l:List Rec) (k:Nat),(∀i,k≤i→i<k+l.length→s i=s' i)→sel s k l=sel s' k l
 |[],_,_=>rfl
 |r::l,k,h=>by
  have h0:=h k (Nat.le_refl _) (by simp)
  have ih:=sel_congr l (k+1) fun i h1 h2=>h i (by omega) (by simp;omega)
  simp only [sel,h0,ih]
theorem sel_all {s:Nat→Bool}:∀(l:List Rec) (k:Nat),(∀i,k≤i→i<k+l.length→s i=true)→sel s k l=l
 |[],_,_=>rfl
 |r::l,k,h=>by
  have h0:=h k (Nat.le_refl _) (by simp)
  have ih:=sel_all l (k+1) fun i h1 h2=>h i (by omega) (by simp;omega)
  simp only [sel,h0,ih,cond_true]
theorem sel_nil {s:Nat→Bool}:∀(l:List Rec) (k:Nat),(∀i,k≤i→i<k+l.length→s i=false)→sel s k l=[]
 |[],_,_=>rfl
 |r::l,k,h=>by
  have h0:=h k (Nat.le_refl _) (by simp)
  have ih:=sel_nil l (k+1) fun i h1 h2=>h i (by omega) (by simp;omega)
  simp only [sel,h0,ih,cond_false]
theorem mem_sel {s:Nat→Bool} {y:Rec}:∀(l:List Rec) (k:Nat),y∈sel s k l→∃i,l[i]?=some y∧s (k+i)=true
 |[],_,h=>by simp [sel] at h
 |r::l,k,h=>by
  simp only [sel] at h
  have next:=fun (h:y∈sel s (k+1) l)=>mem_sel l (k+1) h
  cases hs:s k
  ·rw [hs] at h
   obtain ⟨i,h1,h2⟩:=next h
   exact ⟨i+1,by simpa using h1,by rw [←h2];congr 1;omega⟩
  ·rw [hs] at h
   rcases List.mem_cons.1 h with rfl|h
   ·exact ⟨0,rfl,hs⟩
   ·obtain ⟨i,h1,h2⟩:=next h
    exact ⟨i+1,by simpa using h1,by rw [←h2];congr 1;omega⟩
theorem sel_take (l:List Rec) (j:Nat) (hj:j≤l.length):sel (fun i=>decide (i<j)) 0 l=l.take j:=by
 conv=>lhs;rw [←List.take_append_drop j l]
 rw [sel_append,sel_all,sel_nil,List.append_nil]
 ·intro i h1 h2
  rw [List.length_take] at h1
  exact decide_eq_false (by omega)
 ·intro i h1 h2
  rw [List.length_take] at h2
  exact decide_eq_true (by omega)
theorem killT_length (ks:List Nat):∀t:T,(killT ks t).length=t.length:=by
 have h1:∀(k:Nat) (t:List AV),(AV.killL k t).length=t.length:=fun k t=>by
  induction t with
  |nil=>rfl
  |cons a t ih=>simp [AV.killL,ih]
 induction ks with
 |nil=>intro t;rfl
 |cons k ks ih=>intro t;simp only [killT];rw [ih,h1]
theorem put_length (t:T) (d:Option Nat) (v:AV):(t.put d v).length=t.length:=by cases d<;>simp [T.put]
theorem stepR_length (p:T×H) (r:Rec):(stepR p r).1.length=p.1.length:=by
 unfold stepR;simp only;rw [put_length,killT_length]
abbrev NoD (h:H):Prop:=(h.map (·.1)).Nodup
theorem killH_nod (ks:List Nat):∀{h:H},NoD h→NoD (killH ks h):=by
 induction ks with
 |nil=>intro h n;exact n
 |cons k ks ih=>intro h n;exact ih (by unfold NoD;rw [H.keys_kill];exact n)
theorem apply_nod (u:Upd):∀{h:H},NoD h→NoD (h.apply u):=by
 induction u with
 |nil=>intro h n;exact n
 |cons p u ih=>
  intro h n
  obtain ⟨o,x⟩:=p
  cases x with
  |none=>exact ih (H.nodup_del o h n)
  |some x=>exact ih (H.nodup_put o x h n)
theorem stepR_nod {p:T×H} (r:Rec) (n:NoD p.2):NoD (stepR p r).2:=apply_nod _ (killH_nod _ n)
theorem foldR_nod (l:List Rec):∀{p:T×H},NoD p.2→NoD (foldR p l).2:=by
 induction l with
 |nil=>intro p n;exact n
 |cons r l ih=>intro p n;exact ih (stepR_nod r n)
theorem put_ids (t:T) (d:Option Nat) (v:AV):∀i∈AV.idsL (t.put d v),i∈AV.idsL t∨i∈v.ids:=by
 intro i hi
 cases d with
 |none=>exact .inl hi
 |some d=>
  obtain ⟨a,ha,hai⟩:=mem_idsL hi
  rcases List.mem_or_eq_of_mem_set ha with h|rfl
  ·exact .inl (ids_mem h i hai)
  ·exact .inr hai
theorem objIds_kill (k:Nat) (h:H):∀i∈H.ids (H.kill k h),i∈H.ids h:=by
 induction h with
 |nil=>intro i hi;exact hi
 |cons p h ih=>
  obtain ⟨o,x⟩:=p
  intro i hi
  simp only [H.kill,H.ids,List.mem_cons,List.mem_append] at hi⊢
  rcases hi with rfl|hi|hi
  ·exact .inl rfl
  ·exact .inr (.inl (Obj.ids_kill k x i hi).1)
  ·exact .inr (.inr (ih i hi))
theorem killH_ids (ks:List Nat):∀(h:H),∀i∈H.ids (killH ks h),i∈H.ids h:=by
 induction ks with
 |nil=>intro h i hi;exact hi
 |cons k ks ih=>intro h i hi;exact objIds_kill k h i (ih _ i hi)
theorem apply_ids (u:Upd):∀(h:H),∀i∈H.ids (h.apply u),i∈H.ids h∨i∈outU u:=by
 induction u with
 |nil=>intro h i hi;exact .inl hi
 |cons p u ih=>
  intro h i hi
  obtain ⟨o,x⟩:=p
  cases x with
  |none=>
   rcases ih _ i hi with h1|h1
   ·exact .inl (ids_del o h i h1)
   ·exact .inr (by simp [outU,h1])
  |some x=>
   rcases ih _ i hi with h1|h1
   ·rcases ids_put o x h i h1 with h2|h2|h2
    ·exact .inl h2
    ·exact .inr (by simp [outU,h2])
    ·exact .inr (by simp [outU,h2])
   ·exact .inr (by simp [outU,h1])
theorem foldR_ids (l:List Rec):∀(p:T×H) (i:Nat),i∈AV.idsL (foldR p l).1++H.ids (foldR p l).2→i∈AV.idsL p.1++H.ids p.2∨∃r∈l,i∈r.out:=by
 induction l with
 |nil=>intro p i hi;exact .inl hi
 |cons r l ih=>
  intro p i hi
  rcases ih (stepR p r) i hi with h1|⟨r',hr,h1⟩
  ·simp only [stepR,List.mem_append] at h1
   rcases h1 with h1|h1
   ·rcases put_ids _ _ _ i h1 with h2|h2
    ·exact .inl (List.mem_append.2 (.inl (killT_ids r.ks p.1 i h2).1))
    ·exact .inr ⟨r,by simp,by simp [Rec.out,h2]⟩
   ·rcases apply_ids _ _ i h1 with h2|h2
    ·exact .inl (List.mem_append.2 (.inr (killH_ids _ _ i h2)))
    ·exact .inr ⟨r,by simp,by simp [Rec.out,h2]⟩
  ·exact .inr ⟨r',by simp [hr],h1⟩
theorem killH_get {h h':H} {o:Nat} (e:H.get o h=H.get o h') (ks:List Nat):H.get o (killH ks h)=H.get o (killH ks h'):=by
 induction ks generalizing h h' with
 |nil=>exact e
 |cons k ks ih=>exact ih (by rw [H.get_kill,H.get_kill,e])
theorem apply_get {o:Nat} (u:Upd):∀{h h':H},NoD h→NoD h'→H.get o h=H.get o h'→H.get o (h.apply u)=H.get o (h'.apply u):=by
 induction u with
 |nil=>intro h h' _ _ e;exact e
 |cons p u ih=>
  intro h h' n n' e
  obtain ⟨i,x⟩:=p
  cases x with
  |none=>
   refine ih (H.nodup_del i h n) (H.nodup_del i h' n') ?_
   by_cases hi:o=i
   ·subst hi;rw [H.get_del_same o h n,H.get_del_same o h' n']
   ·rw [H.get_del_ne hi,H.get_del_ne hi,e]
  |some x=>
   refine ih (H.nodup_put i x h n) (H.nodup_put i x h' n') ?_
   by_cases hi:o=i
   ·subst hi;rw [H.get_put_same,H.get_put_same]
   ·rw [H.get_put_ne x hi,H.get_put_ne x hi,e]
theorem apply_other {o:Nat} (u:Upd):∀{h:H},o∉keysU u→H.get o (h.apply u)=H.get o h:=by
 induction u with
 |nil=>intro h _;rfl
 |cons p u ih=>
  intro h hn
  obtain ⟨i,x⟩:=p
  simp only [keysU,List.map_cons,List.mem_cons,not_or] at hn
  cases x with
  |none=>exact (ih hn.2).trans (H.get_del_ne hn.1 h)
  |some x=>exact (ih hn.2).trans (H.get_put_ne x hn.1 h)
structure Agr (X Y:List Nat) (p q:T×H):Prop where
 len:p.1.length=q.1.length
 slots:∀d∈X,p.1.at d=q.1.at d
 objs:∀o∈Y,H.get o p.2=H.get o q.2
theorem at_killL (k:Nat) (t:T) (d:Nat):T.at (AV.killL k t) d=AV.kill k (t.at d):=by
 have:∀(t:List AV) (d:Nat),(AV.killL k t)[d]?=(t[d]?).map (AV.kill k):=fun t=>by
  induction t with
  |nil=>intro d;rfl
  |cons a t ih=>intro d;cases d with
   |zero=>rfl
   |succ d=>simp [AV.killL,ih]
 unfold T.at
 rw [List.getD_eq_getElem?_getD,List.getD_eq_getElem?_getD,this]
 cases t[d]?<;>rfl
theorem at_killT (ks:List Nat) {d:Nat}:∀{t t':T},t.at d=t'.at d→(killT ks t).at d=(killT ks t').at d:=by
 induction ks with
 |nil=>intro t t' e;exact e
 |cons k ks ih=>intro t t' e;exact ih (by rw [at_killL,at_killL,e])
theorem at_put (t:T) (i:Nat) (v:AV) (d:Nat):(t.put (some i) v).at d=if i=d∧d<t.length then v else t.at d:=by
 unfold T.put T.at
 simp only [List.getD_eq_getElem?_getD,List.getElem?_set]
 by_cases h:i=d
 ·subst h
  by_cases hl:i<t.length
  ·simp [hl]
  ·simp [hl]
 ·simp [h]
theorem at_put_ne (t:T) {dst:Option Nat} {v:AV} {d:Nat} (h:dst≠some d):(t.put dst v).at d=t.at d:=by
 cases dst with
 |none=>rfl
 |some i=>rw [at_put,if_neg];rintro ⟨rfl,-⟩;exact h rfl
theorem Agr.step {X Y:List Nat} {p q:T×H} (g:Agr X Y p q) (n:NoD p.2) (n':NoD q.2) (r:Rec):Agr X Y (stepR p r) (stepR q r) where
 len:=by rw [stepR_length,stepR_length,g.len]
 slots d hd:=by
  unfold stepR;simp only
  have h1:=at_killT r.ks (g.slots d hd)
  cases hr:r.dst with
  |none=>exact h1
  |some i=>rw [at_put,at_put,h1,killT_length,killT_length,g.len]
 objs o ho:=apply_get _ (killH_nod _ n) (killH_nod _ n') (killH_get (g.objs o ho) _)
theorem Agr.skip {X Y:List Nat} {p q:T×H} (g:Agr X Y p q) {r:Rec} (hk:r.ks=[]) (hd:∀d,r.dst=some d→d∉X) (hu:∀o∈keysU r.u,o∉Y):Agr X Y (stepR p r) q where
 len:=by rw [stepR_length,g.len]
 slots d hx:=by
  unfold stepR;simp only [hk,killT]
  rw [at_put_ne _ (fun e=>hd d e hx)]
  exact g.slots d hx
 objs o ho:=by
  unfold stepR;simp only [hk,killH]
  rw [apply_other _ (fun h=>hu o h ho)]
  exact g.objs o ho
theorem Agr.sels {X Y:List Nat} {s s':Nat→Bool}:∀(l:List Rec) (k:Nat) {p q:T×H},Agr X Y p q→NoD p.2→NoD q.2→(∀i,s' i=true→s i=true)→
  (∀i r,l[i]?=some r→s (k+i)=true→s' (k+i)=false→r.ks=[]∧(∀d,r.dst=some d→d∉X)∧∀o∈keysU r.u,o∉Y)→
  Agr X Y (foldR p (sel s k l)) (foldR q (sel s' k l))
 |[],_,_,_,g,_,_,_,_=>g
 |r::l,k,p,q,g,n,n',hs,h=>by
  have h':∀i r,l[i]?=some r→s (k+1+i)=true→s' (k+1+i)=false→r.ks=[]∧(∀d,r.dst=some d→d∉X)∧∀o∈keysU r.u,o∉Y:=fun i r hi h1 h2=>by
   have e:k+1+i=k+(i+1):=by omega
   rw [e] at h1 h2
   exact h (i+1) r (by simpa using hi) h1 h2
  simp only [sel]
  cases h1:s k
  ·have h2:s' k=false:=by
    cases h2:s' k
    ·rfl
    ·rw [hs k h2] at h1;cases h1
   simp only [h2,cond_false]
   exact Agr.sels l (k+1) g n n' hs h'
  ·cases h2:s' k
   ·simp only [cond_true,cond_false,foldR_cons]
    obtain ⟨a,b,c⟩:=h 0 r rfl h1 h2
    exact Agr.sels l (k+1) (g.skip a b c) (stepR_nod r n) n' hs h'
   ·simp only [cond_true,foldR_cons]
    exact Agr.sels l (k+1) (g.step n n' r) (stepR_nod r n) (stepR_nod r n') hs h'
def Eqv (p q:T×H):Prop:=p.1=q.1∧∀o,H.get o p.2=H.get o q.2
theorem Eqv.refl (p:T×H):Eqv p p:=⟨rfl,fun _=>rfl⟩
theorem Eqv.trans {p q r:T×H} (a:Eqv p q) (b:Eqv q r):Eqv p r:=⟨a.1.trans b.1,fun o=>(a.2 o).trans (b.2 o)⟩
theorem Eqv.step {p q:T×H} (g:Eqv p q) (n:NoD p.2) (n':NoD q.2) (r:Rec):Eqv (stepR p r) (stepR q r):=
 ⟨by unfold stepR;simp only [g.1],fun o=>apply_get _ (killH_nod _ n) (killH_nod _ n') (killH_get (g.2 o) _)⟩
theorem Eqv.fold (l:List Rec):∀{p q:T×H},Eqv p q→NoD p.2→NoD q.2→Eqv (foldR p l) (foldR q l):=by
 induction l with
 |nil=>intro p q g _ _;exact g
 |cons r l ih=>intro p q g n n';exact ih (g.step n n' r) (stepR_nod r n) (stepR_nod r n')
structure Swap (x y:Rec):Prop where
 kx:x.ks=[]
 ky:y.ks=[]
 dst:∀d,x.dst=some d→y.dst≠some d
 keys:∀o∈keysU x.u,o∉keysU y.u
theorem Swap.eqv {x y:Rec} (s:Swap x y) {p:T×H} (n:NoD p.2):Eqv (stepR (stepR p x) y) (stepR (stepR p y) x):=by
 constructor
 ·unfold stepR;simp only [s.kx,s.ky,killT]
  cases hx:x.dst with
  |none=>rfl
  |some d=>
   cases hy:y.dst with
   |none=>rfl
   |some e=>
    have:d≠e:=fun h=>s.dst d hx (by rw [hy,h])
    exact List.set_comm _ _ this
 ·intro o
  unfold stepR;simp only [s.kx,s.ky,killH]
  by_cases ho:o∈keysU y.u
  ·have hx:o∉keysU x.u:=fun h=>s.keys o h ho
   rw [apply_other x.u hx]
   exact apply_get _ (apply_nod _ n) n (apply_other _ hx)
  ·rw [apply_other y.u ho]
   exact apply_get _ n (apply_nod _ n) (apply_other _ ho).symm
theorem past {x:Rec}:∀(l:List Rec) {p:T×H},NoD p.2→(∀y∈l,Swap x y)→Eqv (foldR (stepR p x) l) (stepR (foldR p l) x)
 |[],p,_,_=>Eqv.refl _
 |y::l,p,n,h=>by
  rw [foldR_cons,foldR_cons]
  exact Eqv.trans (Eqv.fold l ((h y (by simp)).eqv n) (stepR_nod y (stepR_nod x n)) (stepR_nod x (stepR_nod y n))) (past l (stepR_nod y n) fun z hz=>h z (by simp [hz]))
theorem insert_eqv {rs:List Rec} {s s':Nat→Bool} {j:Nat} {x:Rec} (hx:rs[j]?=some x) (hj:s j=false) (hs:∀i,s' i=(Nat.beq i j||s i)) {p:T×H} (n:NoD p.2)
  (hsw:∀i y,j<i→rs[i]?=some y→s i=true→Swap x y):Eqv (foldR p (sel s' 0 rs)) (stepR (foldR p (sel s 0 rs)) x):=by
 have hlt:j<rs.length:=(List.getElem?_eq_some_iff.1 hx).1
 have hsplit:rs=rs.take j++x::rs.drop (j+1):=by
  conv=>lhs;rw [←List.take_append_drop j rs]
  rw [List.drop_eq_getElem_cons hlt]
  have:rs[j]=x:=(List.getElem?_eq_some_iff.1 hx).2
  rw [this]
 have hlen:(rs.take j).length=j:=by rw [List.length_take];omega
 have e1:sel s' 0 rs=sel s 0 (rs.take j)++x::sel s (j+1) (rs.drop (j+1)):=by
  conv=>lhs;rw [hsplit]
  rw [sel_append,hlen,Nat.zero_add]
  congr 1
  ·exact sel_congr _ _ fun i _ h2=>by rw [hs,nbeq_ne.2 (by omega)];rfl
  ·simp only [sel]
   rw [hs,Nat.beq_refl]
   simp only [Bool.true_or,cond_true]
   congr 1
   exact sel_congr _ _ fun i h1 _=>by rw [hs,nbeq_ne.2 (by omega)];rfl
 have e2:sel s 0 rs=sel s 0 (rs.take j)++sel s (j+1) (rs.drop (j+1)):=by
  conv=>lhs;rw [hsplit]
  rw [sel_append,hlen,Nat.zero_add]
  congr 1
  simp only [sel,hj,cond_false]
 rw [e1,e2,foldR_append,foldR_append,foldR_cons]
 refine past _ (foldR_nod _ n) fun y hy=>?_
 obtain ⟨i,h1,h2⟩:=mem_sel _ _ hy
 rw [List.getElem?_drop] at h1
 exact hsw _ y (by omega) h1 h2
end Go.Proofs.YtfdcjocallblcaaGreatDoor.Ev
