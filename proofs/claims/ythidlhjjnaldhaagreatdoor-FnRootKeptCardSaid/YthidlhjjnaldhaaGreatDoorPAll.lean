/- Plain laws, in one text. -/
import Derived.Test.YthidlhjjnaldhaaGreatDoorTX3c
import Derived.Test.YthidlhjjnaldhaaGreatDoorEvZ
import Derived.Test.YthidlhjjnaldhaaGreatDoorEvSort
import Derived.Test.YthidlhjjnaldhaaGreatDoorPAll0
namespace Go.Proofs.YthidlhjjnaldhaaGreatDoor.Ev
open Go
set_option linter.unusedVariables false
set_option linter.unusedSimpArgs false
def QOk (ms:List (List Move)) (seen:List Bool) (q:List Int):Prop:=seen.length=ms.length∧(∀v∈q,∃t:Nat,v=(t:Int)∧Tr seen t)∧(∀t:Nat,Tr seen t→(t:Int)∈q)∧q.length=cnt seen∧q.Nodup
theorem QOk.add {ms:List (List Move)} {seen:List Bool} {q:List Int} (h:QOk ms seen q) {t:Nat} (ht:t<ms.length) (hf:seen.getD t false=false):QOk ms (seen.set t true) (q++[(t:Int)]):=by
 obtain ⟨h1,h2,h3,h4,h5⟩:=h
 refine ⟨by simp [h1],fun v hv=>?_,fun t' ht'=>?_,?_,?_⟩
 ·rcases List.mem_append.1 hv with hv|hv
  ·obtain ⟨s,rfl,hs⟩:=h2 v hv
   exact ⟨s,rfl,(Tr_set (by omega)).2 (.inr hs)⟩
  ·obtain rfl:=List.mem_singleton.1 hv
   exact ⟨t,rfl,(Tr_set (by omega)).2 (.inl rfl)⟩
 ·rcases (Tr_set (by omega)).1 ht' with rfl|h
  ·exact List.mem_append_right _ (List.mem_singleton.2 rfl)
  ·exact List.mem_append_left _ (h3 t' h)
 ·rw [List.length_append,cnt_set _ _ (by omega) hf,h4];rfl
 ·refine List.nodup_append.2 ⟨h5,by simp,fun a ha b hb e=>?_⟩
  obtain rfl:=List.mem_singleton.1 hb
  obtain ⟨s,hs,hT⟩:=h2 a ha
  obtain rfl:s=t:=by omega
  unfold Tr at hT
  rw [hf] at hT;cases hT
theorem QOk.len {ms:List (List Move)} {seen:List Bool} {q:List Int} (h:QOk ms seen q):q.length≤ms.length:=by
 have:=cnt_le seen
 obtain ⟨h1,-,-,h4,-⟩:=h
 omega
theorem sortI_rises {q:List Int} (h:q.Nodup):Rises (sortI q):=by
 have h1:(sortI q).Pairwise fun a b=>decide (a≤b)=true:=List.pairwise_mergeSort (fun a b c hab hbc=>by simp only [decide_eq_true_eq] at*;omega) (fun a b=>by simp only [Bool.or_eq_true,decide_eq_true_eq];omega) q
 have h2:(sortI q).Nodup:=(List.mergeSort_perm q _).nodup_iff.2 h
 exact (h1.and h2).imp fun {a b} hab=>by have:=of_decide_eq_true hab.1;have:=hab.2;omega
theorem slip1_ok (L N:Nat) (ms:List (List Move)) (list:List Int) (hm:Leads ms) (hl:∀v∈list,0≤v∧v<(ms.length:Int)) (hLl:list.length<L) (hll:list.length≤lim) (hL:1048576<L):
  ∃q,f39 L N ⟨ms⟩ list=some q∧q.length≤ms.length∧(∀v∈q,0≤v∧v<(ms.length:Int))∧(∀t:Nat,(t:Int)∈q↔Slip ms (fun s=>(s:Int)∈list) t)∧Rises q:=by
 have hlim:=lim_eq
 have hn:=hm.1
 show ∃q,f39.b L N some ⟨ms⟩ list=some q∧_
 unfold f39.b f39.b'
 have h0:(decide ((0:Int)≤(ms.length:Int))&&decide ((ms.length:Int)≤(lim:Int)))=true:=by rw [le0,dt (by omega)];rfl
 simp only [h0,cond_true]
 have work:∀(m k:Nat) (seen:List Bool) (q:List Int),k≤q.length→ms.length+1-k<m→QOk ms seen q→(∀v∈q,∃t:Nat,v=(t:Int)∧Slip ms (fun s=>(s:Int)∈list) t)→(∀v∈list,v∈q)→
   (∀(j:Nat) (hj:j<q.length),j<k→∀s:Nat,q[j]=(s:Int)→∀(hs:s<ms.length) (i:Nat) (hi:i<(ms[s]).length),(ms[s])[i].act=0→∀t:Nat,(ms[s])[i].to=(t:Int)→Tr seen t)→
   ∃r,f39.l1 L N (fun z19=>f39.p1_e2 L N some z19) m (k:Int) ms seen q=some r∧r.length≤ms.length∧(∀v∈r,0≤v∧v<(ms.length:Int))∧(∀t:Nat,(t:Int)∈r↔Slip ms (fun s=>(s:Int)∈list) t)∧Rises r:=by
  intro m
  induction m with
  |zero=>intro k seen q _ h;omega
  |succ m ih=>
   intro k seen q hk hmk hq hsl hba hpr
   have hql:=hq.len
   show ∃r,f39.s1 L N _ (f39.l1 L N _ m) (k:Int) ms seen q=some r∧_
   unfold f39.s1 f39.s1'
   by_cases hlt:k<q.length
   ·obtain ⟨s,hs,hTs⟩:=hq.2.1 _ (List.getElem_mem hlt)
    have hsn:s<ms.length:=by have:=Tr_lt hTs;rw [hq.1] at this;exact this
    have hrow:=(hm.2 s hsn).1
    simp only [lt_cast hlt,le0,Bool.and_true,cond_true,Int.toNat_natCast,at_lt hlt,hs,lt_cast hsn,at_lt hsn]
    obtain ⟨t0,hst0,hslip0⟩:=hsl _ (List.getElem_mem hlt)
    obtain rfl:s=t0:=by rw [hs] at hst0;omega
    obtain ⟨st,g1,g2,g3,g4,g5,g6⟩:=inv_loop (l:=fun n' i st=>f39.l2 L N (fun z27 z28 z29 z30=>f39.p2_e4 L N (fun z19=>f39.p1_e2 L N some z19) (f39.l1 L N (fun z19=>f39.p1_e2 L N some z19) m) z27 z28 z29 z30) n' (k:Int) ms[s] ((ms[s]).length:Int) i ms st.1 st.2) (len:=(ms[s]).length)
     (K:=fun st:List Bool×List Int=>f39.l1 L N (fun z19=>f39.p1_e2 L N some z19) m ((k+1:Nat):Int) ms st.1 st.2)
     (fun i st=>QOk ms st.1 st.2∧(∀v∈st.2,∃t:Nat,v=(t:Int)∧Slip ms (fun s=>(s:Int)∈list) t)∧(∀j:Nat,j<q.length→st.2[j]?=q[j]?)∧(∀t,Tr seen t→Tr st.1 t)∧∀(i':Nat) (hi':i'<(ms[s]).length),i'<i→(ms[s])[i'].act=0→∀t:Nat,(ms[s])[i'].to=(t:Int)→Tr st.1 t)
     (fun n' i st hi ⟨r1,r2,r3,r4,r5⟩=>by
      show ∃s',f39.s2 L N _ (f39.l2 L N _ n') (k:Int) ms[s] ((ms[s]).length:Int) i ms st.1 st.2=_∧_
      unfold f39.s2 f39.s2'
      obtain ⟨t,ht,htl⟩:=hm.nat hsn hi
      have hsl1:=r1.1
      simp only [le0,lt_cast hi,Bool.and_true,Bool.true_and,cond_true,Int.toNat_natCast,at_lt hi,ht,lt_cast (show t<st.1.length by omega),atD]
      unfold f39.j0'
      simp only [le0,lt_cast (show t<st.1.length by omega),Bool.and_true,cond_true,Int.toNat_natCast,wi_nat (show i<9223372036854775807 by omega)]
      have stay:¬((ms[s])[i].act=0∧¬Tr st.1 t)→(QOk ms st.1 st.2∧(∀v∈st.2,∃t:Nat,v=(t:Int)∧Slip ms (fun s=>(s:Int)∈list) t)∧(∀j:Nat,j<q.length→st.2[j]?=q[j]?)∧(∀t,Tr seen t→Tr st.1 t)∧∀(i':Nat) (hi':i'<(ms[s]).length),i'<i+1→(ms[s])[i'].act=0→∀t:Nat,(ms[s])[i'].to=(t:Int)→Tr st.1 t):=by
       intro hno
       refine ⟨r1,r2,r3,r4,fun i' hi' hlt' ha' t' ht'=>?_⟩
       by_cases he:i'=i
       ·subst he
        rw [ht] at ht'
        obtain rfl:t=t':=by omega
        by_cases hT:Tr st.1 t
        ·exact hT
        ·exact absurd ⟨ha',hT⟩ hno
       ·exact r5 i' hi' (by omega) ha' t' ht'
      by_cases ha:(ms[s])[i].act=0
      ·have hb:((ms[s])[i].act==0)=true:=by simpa using ha
       rw [hb]
       simp only [cond_true]
       cases ht2:st.1.getD t false
       ·have hqq:=r1.len
        have hle:decide (st.2.length+([(t:Int)]:List Int).length≤lim)=true:=dt (by simp only [List.length_cons,List.length_nil];omega)
        simp only [Bool.not_false,cond_true,hle]
        refine ⟨(st.1.set t true,st.2++[(t:Int)]),rfl,r1.add htl ht2,fun v hv=>?_,fun j hj=>?_,fun t' ht'=>(Tr_set (by omega)).2 (.inr (r4 t' ht')),fun i' hi' hlt' ha' t' ht'=>?_⟩
        ·rcases List.mem_append.1 hv with hv|hv
         ·exact r2 v hv
         ·obtain rfl:=List.mem_singleton.1 hv
          exact ⟨t,rfl,.step s t hslip0 hsn i hi ha ht⟩
        ·have hjl:j<st.2.length:=by
          have:=r3 j hj
          rw [List.getElem?_eq_getElem hj] at this
          exact (List.getElem?_eq_some_iff.1 this).1
         show (st.2++[(t:Int)])[j]?=q[j]?
         rw [List.getElem?_append_left hjl];exact r3 j hj
        ·by_cases he:i'=i
         ·subst he
          rw [ht] at ht'
          obtain rfl:t=t':=by omega
          exact (Tr_set (by omega)).2 (.inl rfl)
         ·exact (Tr_set (by omega)).2 (.inr (r5 i' hi' (by omega) ha' t' ht'))
       ·simp only [Bool.not_true,cond_false]
        exact ⟨st,rfl,stay fun h=>h.2 ht2⟩
      ·have hb:((ms[s])[i].act==0)=false:=by simpa using ha
       rw [hb]
       simp only [cond_false]
       exact ⟨st,rfl,stay fun h=>ha h.1⟩)
     (fun n' st _=>by
      show f39.s2 L N _ (f39.l2 L N _ n') (k:Int) ms[s] ((ms[s]).length:Int) (ms[s]).length ms st.1 st.2=_
      unfold f39.s2 f39.s2'
      simp only [ge_cast (Nat.lt_irrefl _),cond_false]
      show f39.l1 L N _ m (wi ((k:Int)+1)) ms st.1 st.2=_
      rw [wi_nat (by omega)])
     L 0 (seen,q) (by omega) (by omega) ⟨hq,hsl,fun _ _=>rfl,fun _ h=>h,fun _ _ h=>by omega⟩
    have hlen:q.length≤st.2.length:=by
     by_cases h0:q.length=0
     ·omega
     ·have:=g4 (q.length-1) (by omega)
      rw [List.getElem?_eq_getElem (show q.length-1<q.length by omega)] at this
      have:=(List.getElem?_eq_some_iff.1 this).1
      omega
    refine (fun ⟨r,h1,h2⟩=>⟨r,g1.trans h1,h2⟩:(∃r,_=some r∧_)→∃r,_=some r∧_) (ih (k+1) st.1 st.2 (by omega) (by omega) g2 g3 (fun v hv=>?_) (fun j hj hjk s' hs' hsl' i hi ha t ht=>?_))
    ·obtain ⟨j,hj,rfl⟩:=List.mem_iff_getElem.1 (hba v hv)
     have:=g4 j hj
     rw [List.getElem?_eq_getElem hj] at this
     exact List.mem_of_getElem? this
    ·by_cases hjk':j=k
     ·subst hjk'
      have:=g4 j hlt
      rw [List.getElem?_eq_getElem hlt,List.getElem?_eq_getElem hj] at this
      have h9:st.2[j]=q[j]:=Option.some.inj this
      rw [hs',hs] at h9
      obtain rfl:s'=s:=by omega
      exact g6 i hi hi ha t ht
     ·have hjq:j<q.length:=by omega
      have:=g4 j hjq
      rw [List.getElem?_eq_getElem hjq,List.getElem?_eq_getElem hj] at this
      have h9:st.2[j]=q[j]:=Option.some.inj this
      exact g5 t (hpr j hjq (by omega) s' (by rw [←h9];exact hs') hsl' i hi ha t ht)
   ·have hkl:k=q.length:=by omega
    subst hkl
    simp only [ge_cast (Nat.lt_irrefl _),cond_false]
    have hfs:fsort q=some ():=by unfold fsort;rw [dt (by omega)];rfl
    refine ⟨sortI q,?_,by rw [sortI_length];exact hql,fun v hv=>?_,fun t=>?_,sortI_rises hq.2.2.2.2⟩
    ·show ((fsort q).bind fun _=>some (sortI q))=_
     rw [hfs];rfl
    ·obtain ⟨t,rfl,hT⟩:=hq.2.1 v ((sortI_mem q v).1 hv)
     have:=Tr_lt hT
     rw [hq.1] at this
     omega
    ·rw [sortI_mem]
     constructor
     ·intro h
      obtain ⟨t',h1,h2⟩:=hsl _ h
      obtain rfl:t=t':=by omega
      exact h2
     ·intro r
      refine hq.2.2.1 t ?_
      induction r with
      |base t hx=>
       obtain ⟨t',h1,h2⟩:=hq.2.1 _ (hba _ hx)
       obtain rfl:t=t':=by omega
       exact h2
      |step s t _ hs i hi ha ht ihr=>
       obtain ⟨j,hj,hjs⟩:=List.mem_iff_getElem.1 (hq.2.2.1 s ihr)
       exact hpr j hj hj s hjs hs i hi ha t ht
 obtain ⟨st,g1,g2,g3,g4⟩:=inv_loop (l:=fun n i st=>f39.l0 L N (fun z6 z7 z8=>f39.p0_e0 L N some z6 z7 z8) n list (list.length:Int) i ms st.1 st.2) (len:=list.length)
  (K:=fun st:List Bool×List Int=>f39.l1 L N (fun z19=>f39.p1_e2 L N some z19) L (0:Int) ms st.1 st.2)
  (fun i st=>QOk ms st.1 st.2∧(∀v∈st.2,v∈list)∧∀(j:Nat) (hj:j<list.length),j<i→list[j]∈st.2)
  (fun n i st hi ⟨r1,r2,r3⟩=>by
   show ∃s',f39.s0 L N _ (f39.l0 L N _ n) list (list.length:Int) i ms st.1 st.2=_∧_
   unfold f39.s0 f39.s0'
   obtain ⟨h1,h2⟩:=hl _ (List.getElem_mem hi)
   obtain ⟨t,ht⟩:=Int.eq_ofNat_of_zero_le h1
   have htl:t<ms.length:=by omega
   have hsl1:=r1.1
   have hqq:=r1.len
   have hle:decide (st.2.length+([(t:Int)]:List Int).length≤lim)=true:=dt (by simp only [List.length_cons,List.length_nil];omega)
   simp only [le0,lt_cast hi,Bool.and_true,Bool.true_and,cond_true,Int.toNat_natCast,at_lt hi,ht,lt_cast (show t<st.1.length by omega),atD,hle,wi_nat (show i<9223372036854775807 by omega)]
   cases ht2:st.1.getD t false
   ·simp only [Bool.not_false,cond_true]
    refine ⟨(st.1.set t true,st.2++[(t:Int)]),rfl,r1.add htl ht2,fun v hv=>?_,fun j hj hji=>?_⟩
    ·rcases List.mem_append.1 hv with hv|hv
     ·exact r2 v hv
     ·obtain rfl:=List.mem_singleton.1 hv
      rw [←ht];exact List.getElem_mem hi
    ·by_cases he:j=i
     ·subst he
      rw [ht];exact List.mem_append_right _ (List.mem_singleton.2 rfl)
     ·exact List.mem_append_left _ (r3 j hj (by omega))
   ·simp only [Bool.not_true,cond_false]
    refine ⟨st,rfl,r1,r2,fun j hj hji=>?_⟩
    by_cases he:j=i
    ·subst he
     rw [ht];exact r1.2.2.1 t ht2
    ·exact r3 j hj (by omega))
  (fun n st _=>by
   show f39.s0 L N _ (f39.l0 L N _ n) list (list.length:Int) list.length ms st.1 st.2=_
   unfold f39.s0 f39.s0'
   simp only [ge_cast (Nat.lt_irrefl _),cond_false]
   rfl)
  L 0 (List.replicate ms.length false,[]) (by omega) (by omega)
  ⟨⟨by simp,fun v hv=>by simp at hv,fun t h=>absurd h (Tr_replicate _ t),by rw [cnt_replicate];rfl,List.nodup_nil⟩,fun v hv=>by simp at hv,fun _ _ h=>by omega⟩
 have e0:((ms.length:Int)).toNat=ms.length:=rfl
 rw [e0]
 refine (show ∃q,_=some q∧_ from ?_)
 have h1:=work L 0 st.1 st.2 (by omega) (by omega) g2 (fun v hv=>by
  obtain ⟨t,rfl,-⟩:=g2.2.1 v hv
  exact ⟨t,rfl,.base t (g3 _ hv)⟩) (fun v hv=>by
  obtain ⟨j,hj,rfl⟩:=List.mem_iff_getElem.1 hv
  exact g4 j hj hj) (fun _ _ h=>by omega)
 obtain ⟨r,h2,h3⟩:=h1
 exact ⟨r,g1.trans h2,h3⟩
end Go.Proofs.YthidlhjjnaldhaaGreatDoor.Ev
namespace Go.Proofs.YthidlhjjnaldhaaGreatDoor.Ev
open Go
set_option linter.unusedVariables false
set_option linter.unusedSimpArgs false
theorem rows_snoc {α:Type} {P:Nat→α→Prop} {l:List α} {x:α} (h:∀(j:Nat) (hj:j<l.length),P j l[j]) (hx:P l.length x):∀(j:Nat) (hj:j<(l++[x]).length),P j (l++[x])[j]:=by
 intro j hj
 by_cases e:j<l.length
 ·rw [List.getElem_append_left e];exact h j e
 ·have:j=l.length:=by simp at hj;omega
  subst this
  rw [List.getElem_append_right (Nat.le_refl _)]
  simpa using hx
theorem slips2_work {R:Type} (L N:Nat) (K:Int→List (List Move)→List (List Bool)→List Bool→Option R) (ms:List (List Move)) (i0:Nat) (hi0:i0<ms.length) (rows:List (List Bool)) (hm:Leads ms) (hL:1048576<L):
  ∀(m k:Nat) (seen:List Bool) (q:List Int),k≤q.length→ms.length+1-k<m→QOk ms seen q→(∀v∈q,∃t:Nat,v=(t:Int)∧Slip ms (fun s=>s=i0) t)→(i0:Int)∈q→
   (∀(j:Nat) (hj:j<q.length),j<k→∀s:Nat,q[j]=(s:Int)→∀(hs:s<ms.length) (i:Nat) (hi:i<(ms[s]).length),(ms[s])[i].act=0→∀t:Nat,(ms[s])[i].to=(t:Int)→Tr seen t)→
   ∃seen':List Bool,seen'.length=ms.length∧(∀t:Nat,Tr seen' t↔Slip ms (fun s=>s=i0) t)∧f77.l1 L N K m (i0:Int) (k:Int) ms rows seen q=K (i0:Int) ms rows seen':=by
 have hlim:=lim_eq
 have hn:=hm.1
 intro m
 induction m with
 |zero=>intro k seen q _ h;omega
 |succ m ih=>
  intro k seen q hk hmk hq hsl hba hpr
  have hql:=hq.len
  show ∃seen',_∧_∧f77.s1 L N _ (f77.l1 L N _ m) (i0:Int) (k:Int) ms rows seen q=_
  unfold f77.s1 f77.s1'
  by_cases hlt:k<q.length
  ·obtain ⟨s,hs,hTs⟩:=hq.2.1 _ (List.getElem_mem hlt)
   have hsn:s<ms.length:=by have:=Tr_lt hTs;rw [hq.1] at this;exact this
   have hrow:=(hm.2 s hsn).1
   simp only [lt_cast hlt,le0,Bool.and_true,cond_true,Int.toNat_natCast,at_lt hlt,hs,lt_cast hsn,at_lt hsn]
   obtain ⟨t0,hst0,hslip0⟩:=hsl _ (List.getElem_mem hlt)
   obtain rfl:s=t0:=by rw [hs] at hst0;omega
   obtain ⟨st,g1,g2,g3,g4,g5,g6⟩:=inv_loop (l:=fun n' i st=>f77.l2 L N (fun z22 z23 z24 z25 z26 z27=>f77.p2_e4 L N K (f77.l1 L N K m) z22 z23 z24 z25 z26 z27) n' (i0:Int) (k:Int) ms[s] i ms rows st.1 st.2) (len:=(ms[s]).length)
    (K:=fun st:List Bool×List Int=>f77.l1 L N K m (i0:Int) ((k+1:Nat):Int) ms rows st.1 st.2)
    (fun i st=>QOk ms st.1 st.2∧(∀v∈st.2,∃t:Nat,v=(t:Int)∧Slip ms (fun s=>s=i0) t)∧(∀j:Nat,j<q.length→st.2[j]?=q[j]?)∧(∀t,Tr seen t→Tr st.1 t)∧∀(i':Nat) (hi':i'<(ms[s]).length),i'<i→(ms[s])[i'].act=0→∀t:Nat,(ms[s])[i'].to=(t:Int)→Tr st.1 t)
    (fun n' i st hi ⟨r1,r2,r3,r4,r5⟩=>by
     show ∃s',f77.s2 L N _ (f77.l2 L N _ n') (i0:Int) (k:Int) ms[s] i ms rows st.1 st.2=_∧_
     unfold f77.s2 f77.s2'
     obtain ⟨t,ht,htl⟩:=hm.nat hsn hi
     have hsl1:=r1.1
     simp only [le0,lt_cast hi,Bool.and_true,Bool.true_and,cond_true,Int.toNat_natCast,at_lt hi,ht,lt_cast (show t<st.1.length by omega),atD]
     unfold f77.j0'
     simp only [le0,lt_cast hi,lt_cast (show t<st.1.length by omega),Bool.and_true,cond_true,Int.toNat_natCast,at_lt hi,ht,wi_nat (show i<9223372036854775807 by omega)]
     have stay:¬((ms[s])[i].act=0∧¬Tr st.1 t)→(QOk ms st.1 st.2∧(∀v∈st.2,∃t:Nat,v=(t:Int)∧Slip ms (fun s=>s=i0) t)∧(∀j:Nat,j<q.length→st.2[j]?=q[j]?)∧(∀t,Tr seen t→Tr st.1 t)∧∀(i':Nat) (hi':i'<(ms[s]).length),i'<i+1→(ms[s])[i'].act=0→∀t:Nat,(ms[s])[i'].to=(t:Int)→Tr st.1 t):=by
      intro hno
      refine ⟨r1,r2,r3,r4,fun i' hi' hlt' ha' t' ht'=>?_⟩
      by_cases he:i'=i
      ·subst he
       rw [ht] at ht'
       obtain rfl:t=t':=by omega
       by_cases hT:Tr st.1 t
       ·exact hT
       ·exact absurd ⟨ha',hT⟩ hno
      ·exact r5 i' hi' (by omega) ha' t' ht'
     by_cases ha:(ms[s])[i].act=0
     ·have hb:((ms[s])[i].act==0)=true:=by simpa using ha
      rw [hb]
      simp only [cond_true]
      cases ht2:st.1.getD t false
      ·have hqq:=r1.len
       have hle:decide (st.2.length+([(t:Int)]:List Int).length≤lim)=true:=dt (by simp only [List.length_cons,List.length_nil];omega)
       simp only [Bool.not_false,cond_true,hle]
       refine ⟨(st.1.set t true,st.2++[(t:Int)]),rfl,r1.add htl ht2,fun v hv=>?_,fun j hj=>?_,fun t' ht'=>(Tr_set (by omega)).2 (.inr (r4 t' ht')),fun i' hi' hlt' ha' t' ht'=>?_⟩
       ·rcases List.mem_append.1 hv with hv|hv
        ·exact r2 v hv
        ·obtain rfl:=List.mem_singleton.1 hv
         exact ⟨t,rfl,.step s t hslip0 hsn i hi ha ht⟩
       ·have hjl:j<st.2.length:=by
         have:=r3 j hj
         rw [List.getElem?_eq_getElem hj] at this
         exact (List.getElem?_eq_some_iff.1 this).1
        show (st.2++[(t:Int)])[j]?=q[j]?
        rw [List.getElem?_append_left hjl];exact r3 j hj
       ·by_cases he:i'=i
        ·subst he
         rw [ht] at ht'
         obtain rfl:t=t':=by omega
         exact (Tr_set (by omega)).2 (.inl rfl)
        ·exact (Tr_set (by omega)).2 (.inr (r5 i' hi' (by omega) ha' t' ht'))
      ·simp only [Bool.not_true,cond_false]
       exact ⟨st,rfl,stay fun h=>h.2 ht2⟩
     ·have hb:((ms[s])[i].act==0)=false:=by simpa using ha
      rw [hb]
      simp only [cond_false]
      exact ⟨st,rfl,stay fun h=>ha h.1⟩)
    (fun n' st _=>by
     show f77.s2 L N _ (f77.l2 L N _ n') (i0:Int) (k:Int) ms[s] (ms[s]).length ms rows st.1 st.2=_
     unfold f77.s2 f77.s2'
     simp only [ge_cast (Nat.lt_irrefl _),cond_false]
     show f77.l1 L N _ m (i0:Int) (wi ((k:Int)+1)) ms rows st.1 st.2=_
     rw [wi_nat (by omega)])
    L 0 (seen,q) (by omega) (by omega) ⟨hq,hsl,fun _ _=>rfl,fun _ h=>h,fun _ _ h=>by omega⟩
   have hlen:q.length≤st.2.length:=by
    by_cases h0:q.length=0
    ·omega
    ·have:=g4 (q.length-1) (by omega)
     rw [List.getElem?_eq_getElem (show q.length-1<q.length by omega)] at this
     have:=(List.getElem?_eq_some_iff.1 this).1
     omega
   refine (fun ⟨r,h0,h1,h2⟩=>⟨r,h0,h1,g1.trans h2⟩:(∃r,_∧_∧_=_)→∃r,_∧_∧_=_) (ih (k+1) st.1 st.2 (by omega) (by omega) g2 g3 ?_ (fun j hj hjk s' hs' hsl' i hi ha t ht=>?_))
   ·obtain ⟨j,hj,he⟩:=List.mem_iff_getElem.1 hba
    have:=g4 j hj
    rw [List.getElem?_eq_getElem hj,he] at this
    exact List.mem_of_getElem? this
   ·by_cases hjk':j=k
    ·subst hjk'
     have:=g4 j hlt
     rw [List.getElem?_eq_getElem hlt,List.getElem?_eq_getElem hj] at this
     have h9:st.2[j]=q[j]:=Option.some.inj this
     rw [hs',hs] at h9
     obtain rfl:s'=s:=by omega
     exact g6 i hi hi ha t ht
    ·have hjq:j<q.length:=by omega
     have:=g4 j hjq
     rw [List.getElem?_eq_getElem hjq,List.getElem?_eq_getElem hj] at this
     have h9:st.2[j]=q[j]:=Option.some.inj this
     exact g5 t (hpr j hjq (by omega) s' (by rw [←h9];exact hs') hsl' i hi ha t ht)
  ·have hkl:k=q.length:=by omega
   subst hkl
   simp only [ge_cast (Nat.lt_irrefl _),cond_false]
   refine ⟨seen,hq.1,fun t=>?_,rfl⟩
   constructor
   ·intro h
    obtain ⟨t',h1,h2⟩:=hsl _ (hq.2.2.1 t h)
    obtain rfl:t=t':=by omega
    exact h2
   ·intro r
    induction r with
    |base t hx=>
     subst hx
     obtain ⟨t',h1,h2⟩:=hq.2.1 _ hba
     obtain rfl:t=t':=by omega
     exact h2
    |step s t _ hs i hi ha ht ihr=>
     obtain ⟨j,hj,hjs⟩:=List.mem_iff_getElem.1 (hq.2.2.1 s ihr)
     exact hpr j hj hj s hjs hs i hi ha t ht
theorem l5Slips_ok (L N:Nat) (ms:List (List Move)) (hm:Leads ms) (hL:1048576<L):
  ∃rs,f77 L N ⟨ms⟩=some rs∧rs.length=ms.length∧∀(j:Nat) (hj:j<rs.length),(rs[j]).length=ms.length∧∀t:Nat,Tr rs[j] t↔Slip ms (fun s=>s=j) t:=by
 have hlim:=lim_eq
 have hn:=hm.1
 show ∃rs,f77.b L N some ⟨ms⟩=some rs∧_
 unfold f77.b f77.b'
 have key:∀(n i:Nat) (rs:List (List Bool)),rs.length=i→i≤ms.length→ms.length-i<n→(∀(j:Nat) (hj:j<rs.length),(rs[j]).length=ms.length∧∀t:Nat,Tr rs[j] t↔Slip ms (fun s=>s=j) t)→
   ∃rs',f77.l0 L N (fun z3=>f77.p0_e0 L N some z3) n (i:Int) ms rs=some rs'∧rs'.length=ms.length∧∀(j:Nat) (hj:j<rs'.length),(rs'[j]).length=ms.length∧∀t:Nat,Tr rs'[j] t↔Slip ms (fun s=>s=j) t:=by
  intro n
  induction n with
  |zero=>intro i rs _ _ h;omega
  |succ n ih=>
   intro i rs hl hi hn' hr
   show ∃rs',f77.s0 L N _ (f77.l0 L N _ n) (i:Int) ms rs=_∧_
   unfold f77.s0 f77.s0'
   by_cases hlt:i<ms.length
   ·have h0:decide ((ms.length:Int)≤(lim:Int))=true:=dt (by omega)
    have e0:((ms.length:Int)).toNat=ms.length:=rfl
    simp only [lt_cast hlt,cond_true,h0,e0,le0,List.length_replicate,Bool.and_true,Int.toNat_natCast]
    have hfalse:(List.replicate ms.length false).getD i false=false:=by
     rw [List.getD,List.getElem?_replicate];split<;>rfl
    have hQ:QOk ms ((List.replicate ms.length false).set i true) [(i:Int)]:=by
     have h:QOk ms (List.replicate ms.length false) []:=⟨by simp,fun v hv=>by simp at hv,fun t h=>absurd h (Tr_replicate _ t),by rw [cnt_replicate];rfl,List.nodup_nil⟩
     exact h.add hlt hfalse
    obtain ⟨seen',q1,q2,q3⟩:=slips2_work L N (fun z10 z11 z12 z13=>f77.p1_e2 L N (fun z3=>f77.p0_e0 L N some z3) (f77.l0 L N (fun z3=>f77.p0_e0 L N some z3) n) z10 z11 z12 z13) ms i hlt rs hm hL L 0 _ _ (by simp) (by omega) hQ
     (fun v hv=>by obtain rfl:=List.mem_singleton.1 hv;exact ⟨i,rfl,.base i rfl⟩) (List.mem_singleton.2 rfl) (fun _ _ h=>by omega)
    have q3':f77.l1 L N (fun z10 z11 z12 z13=>f77.p1_e2 L N (fun z3=>f77.p0_e0 L N some z3) (f77.l0 L N (fun z3=>f77.p0_e0 L N some z3) n) z10 z11 z12 z13) L (i:Int) (0:Int) ms rs ((List.replicate ms.length false).set i true) [(i:Int)]=_:=q3
    rw [q3']
    show ∃rs',f77.p1_e2' L N _ _ (i:Int) ms rs seen'=_∧_
    unfold f77.p1_e2'
    have hle:decide (rs.length+([seen']:List (List Bool)).length≤lim)=true:=dt (by simp only [List.length_cons,List.length_nil];omega)
    rw [hle,cond_true,wi_nat (by omega)]
    exact ih (i+1) _ (by simp [hl]) (by omega) (by omega) (rows_snoc (P:=fun j r=>r.length=ms.length∧∀t:Nat,Tr r t↔Slip ms (fun s=>s=j) t) hr (by rw [hl];exact ⟨q1,q2⟩))
   ·simp only [ge_cast hlt,cond_false]
    have hi':i=ms.length:=by omega
    subst hi'
    exact ⟨rs,rfl,hl,hr⟩
 exact key L 0 [] rfl (by omega) (by omega) (fun j hj=>by simp at hj)
theorem slips_ok (L N:Nat) (ms:List (List Move)) (hm:Leads ms) (hL:1048576<L):
  ∃rs,f67 L N ⟨ms⟩=some rs∧rs.length=ms.length∧∀(j:Nat) (hj:j<rs.length),(rs[j]).length≤ms.length∧(∀v∈rs[j],0≤v∧v<(ms.length:Int))∧∀t:Nat,(t:Int)∈rs[j]↔Slip ms (fun s=>s=j) t:=by
 have hlim:=lim_eq
 have hn:=hm.1
 show ∃rs,f67.b L N some ⟨ms⟩=some rs∧_
 unfold f67.b f67.b'
 have key:∀(n i:Nat) (rs:List (List Int)),rs.length=i→i≤ms.length→ms.length-i<n→(∀(j:Nat) (hj:j<rs.length),(rs[j]).length≤ms.length∧(∀v∈rs[j],0≤v∧v<(ms.length:Int))∧∀t:Nat,(t:Int)∈rs[j]↔Slip ms (fun s=>s=j) t)→
   ∃rs',f67.l0 L N (fun z4=>f67.p0_e0 L N some z4) n (ms.length:Int) (i:Int) ms rs=some rs'∧rs'.length=ms.length∧∀(j:Nat) (hj:j<rs'.length),(rs'[j]).length≤ms.length∧(∀v∈rs'[j],0≤v∧v<(ms.length:Int))∧∀t:Nat,(t:Int)∈rs'[j]↔Slip ms (fun s=>s=j) t:=by
  intro n
  induction n with
  |zero=>intro i rs _ _ h;omega
  |succ n ih=>
   intro i rs hl hi hn' hr
   show ∃rs',f67.s0 L N _ (f67.l0 L N _ n) (ms.length:Int) (i:Int) ms rs=_∧_
   unfold f67.s0 f67.s0'
   by_cases hlt:i<ms.length
   ·obtain ⟨q,h1,h2,h3,h4,-⟩:=slip1_ok L N ms [(i:Int)] hm (fun v hv=>by obtain rfl:=List.mem_singleton.1 hv;omega) (by simp only [List.length_cons,List.length_nil];omega) (by simp only [List.length_cons,List.length_nil];omega) hL
    have hle:decide (rs.length+([q]:List (List Int)).length≤lim)=true:=dt (by simp only [List.length_cons,List.length_nil];omega)
    have hsame:∀t:Nat,(t:Int)∈q↔Slip ms (fun s=>s=i) t:=fun t=>(h4 t).trans (Slip.iff (fun s=>by
     rw [List.mem_singleton];constructor
     ·intro h;omega
     ·intro h;rw [h]) t)
    simp only [lt_cast hlt,cond_true,h1,Option.bind_some,hle]
    rw [wi_nat (by omega)]
    exact ih (i+1) _ (by simp [hl]) (by omega) (by omega) (rows_snoc (P:=fun j (r:List Int)=>r.length≤ms.length∧(∀v∈r,0≤v∧v<(ms.length:Int))∧∀t:Nat,(t:Int)∈r↔Slip ms (fun s=>s=j) t) hr (by rw [hl];exact ⟨h2,h3,hsame⟩))
   ·simp only [ge_cast hlt,cond_false]
    have hi':i=ms.length:=by omega
    subst hi'
    exact ⟨rs,rfl,hl,hr⟩
 exact key L 0 [] rfl (by omega) (by omega) (fun j hj=>by simp at hj)
end Go.Proofs.YthidlhjjnaldhaaGreatDoor.Ev
namespace Go.Proofs.YthidlhjjnaldhaaGreatDoor.Ev
open Go
set_option linter.unusedVariables false
set_option linter.unusedSimpArgs false
theorem flat_len_le {α β:Type} {f:α→List β} {B:Nat}:∀{l:List α},(∀x∈l,(f x).length≤B)→(l.flatMap f).length≤l.length*B
 |[],_=>by simp
 |x::l,h=>by
  have h1:=h x (.head _)
  have h2:=flat_len_le (f:=f) (B:=B) (l:=l) fun y hy=>h y (.tail _ hy)
  rw [List.flatMap_cons,List.length_append,List.length_cons,Nat.add_mul,Nat.one_mul]
  omega
theorem drop_cons {α:Type} {l:List α} {i:Nat} (h:i<l.length):l.drop i=l[i]::l.drop (i+1):=List.drop_eq_getElem_cons h
theorem drop_end {α:Type} {l:List α} {i:Nat} (h:¬i<l.length):l.drop i=[]:=List.drop_eq_nil_of_le (by omega)
def wkG (sl:List (List Int)) (m:Move):List Move:=if m.act≠0 then (sl.getD m.to.toNat []).map (Move.mk m.act) else []
def wkF (sl:List (List Int)) (ms:List (List Move)) (v:Int):List Move:=Move.mk 0 v::(ms.getD v.toNat []).flatMap (wkG sl)
abbrev wkOut (rows:List (List Move)):Graph:=⟨rows⟩
theorem weak3 {R:Type} (L N:Nat) (K:List (List Int)→Int→Int→List Int→Int→Int→List Move→Int→Int→List (List Move)→List Move→List (List Move)→Option R) (sl:List (List Int)) (n0 i0:Int) (li:List Int) (lli idx:Int) (row:List Move) (rl k:Int) (ts:List Int) (ms:List (List Move)) (act to:Int) (rows:List (List Move)) (hts:ts.length≤60):
  ∀(n j:Nat) (out:List Move),j≤ts.length→ts.length-j<n→out.length+(ts.length-j)≤lim→
   f36.l3 L N K n sl n0 i0 li lli idx row rl k ts (ts.length:Int) (j:Int) ms act to out rows=K sl n0 i0 li lli idx row rl k ms (out++(ts.drop j).map (Move.mk act)) rows:=by
 intro n
 induction n with
 |zero=>intro j out _ h;omega
 |succ n ih=>
  intro j out hj hn ho
  show f36.s3 L N _ (f36.l3 L N _ n) sl n0 i0 li lli idx row rl k ts (ts.length:Int) (j:Int) ms act to out rows=_
  unfold f36.s3 f36.s3'
  by_cases hlt:j<ts.length
  ·have hle:decide (out.length+([(Move.mk act ts[j])]:(List Move)).length≤lim)=true:=dt (by simp only [List.length_cons,List.length_nil];omega)
   simp only [lt_cast hlt,le0,Bool.and_true,cond_true,Int.toNat_natCast,at_lt hlt,hle]
   rw [wi_nat (by omega),ih (j+1) _ (by omega) (by omega) (by simp only [List.length_append,List.length_cons,List.length_nil];omega),drop_cons hlt,List.map_cons,List.append_assoc]
   rfl
  ·simp only [ge_cast hlt,cond_false,drop_end hlt,List.map_nil,List.append_nil]
theorem weak2 {R:Type} (L N:Nat) (hL:1048576<L) (k1_e2:List (List Int)→Int→Int→List (List Move)→List Move→List (List Move)→Option R) (m1:Nat) (sl:List (List Int)) (n0 i0:Int) (li:List Int) (lli idx:Int) (row:List Move) (ms:List (List Move)) (rows:List (List Move))
  (hsl:∀r∈sl,r.length≤60) (hrow:row.length≤1048576) (hto:∀m∈row,0≤m.to∧m.to<(sl.length:Int)):
  ∀(n k:Nat) (out:List Move),k≤row.length→row.length-k<n→out.length+(row.length-k)*60≤lim→
   f36.l2 L N (fun z39 z40 z41 z42 z43 z44 z45 z46 z47=>f36.p2_e4 L N k1_e2 (f36.l1 L N k1_e2 m1) z39 z40 z41 z42 z43 z44 z45 z46 z47) n sl n0 i0 li lli idx row (row.length:Int) (k:Int) ms out rows
    =f36.l1 L N k1_e2 m1 sl n0 i0 li lli (wi (idx+1)) ms (out++(row.drop k).flatMap (wkG sl)) rows:=by
 intro n
 induction n with
 |zero=>intro k out _ h;omega
 |succ n ih=>
  intro k out hk hn ho
  show f36.s2 L N _ (f36.l2 L N _ n) sl n0 i0 li lli idx row (row.length:Int) (k:Int) ms out rows=_
  unfold f36.s2 f36.s2'
  by_cases hlt:k<row.length
  ·have hstep:(row.length-k)*60=(row.length-(k+1))*60+60:=by
    rw [show row.length-k=(row.length-(k+1))+1 by omega,Nat.add_mul]
   obtain ⟨h1,h2⟩:=hto row[k] (List.getElem_mem hlt)
   generalize hm:row[k]=m at h1 h2
   obtain ⟨t,ht⟩:=Int.eq_ofNat_of_zero_le h1
   have htl:t<sl.length:=by omega
   simp only [lt_cast hlt,le0,Bool.and_true,cond_true,Int.toNat_natCast,at_lt hlt,hm,ht,lt_cast htl,at_lt htl]
   rw [drop_cons hlt,hm,List.flatMap_cons]
   have hg:m.act≠0→wkG sl m=(sl[t]).map (Move.mk m.act):=fun h=>by
    unfold wkG
    rw [if_pos h,ht,Int.toNat_natCast,getD_lt htl]
   by_cases ha:m.act=0
   ·have hb:(m.act !=0)=false:=by simp [ha]
    have hg0:wkG sl m=[]:=by unfold wkG;rw [if_neg (fun h=>h ha)]
    rw [hb,cond_false,wi_nat (by omega),ih (k+1) out (by omega) (by omega) (by omega),hg0]
    rfl
   ·have hb:(m.act !=0)=true:=by simpa using ha
    have hr:=hsl _ (List.getElem_mem htl)
    rw [hb,cond_true]
    refine (weak3 L N _ sl n0 i0 li lli idx row (row.length:Int) (k:Int) sl[t] ms m.act (t:Int) rows hr L 0 out (by omega) (by omega) (by omega)).trans ?_
    rw [List.drop_zero,hg ha]
    show f36.p3_e6' L N _ _ sl n0 i0 li lli idx row (row.length:Int) (k:Int) ms _ rows=_
    unfold f36.p3_e6'
    rw [wi_nat (by omega),ih (k+1) _ (by omega) (by omega) (by rw [List.length_append,List.length_map];omega),List.append_assoc]
  ·simp only [ge_cast hlt,cond_false,drop_end hlt,List.flatMap_nil,List.append_nil]
   rfl
theorem weak1 {R:Type} (L N:Nat) (hL:1048576<L) (K:List (List Int)→Int→Int→List (List Move)→List Move→List (List Move)→Option R) (sl:List (List Int)) (n0 i0:Int) (li:List Int) (ms:List (List Move)) (rows:List (List Move))
  (hm:Leads ms) (hsn:sl.length=ms.length) (hsl:∀r∈sl,r.length≤60) (hli:∀v∈li,0≤v∧v<(ms.length:Int)) (hll:li.length≤60):
  ∀(n idx:Nat) (out:List Move),idx≤li.length→li.length-idx<n→out.length+(li.length-idx)*62914561≤lim→
   f36.l1 L N K n sl n0 i0 li (li.length:Int) (idx:Int) ms out rows=K sl n0 i0 ms (out++(li.drop idx).flatMap (wkF sl ms)) rows:=by
 intro n
 induction n with
 |zero=>intro k out _ h;omega
 |succ n ih=>
  intro idx out hk hn ho
  show f36.s1 L N _ (f36.l1 L N _ n) sl n0 i0 li (li.length:Int) (idx:Int) ms out rows=_
  unfold f36.s1 f36.s1'
  by_cases hlt:idx<li.length
  ·have hstep:(li.length-idx)*62914561=(li.length-(idx+1))*62914561+62914561:=by
    rw [show li.length-idx=(li.length-(idx+1))+1 by omega,Nat.add_mul]
   obtain ⟨h1,h2⟩:=hli li[idx] (List.getElem_mem hlt)
   generalize hv:li[idx]=v at h1 h2
   obtain ⟨t,ht⟩:=Int.eq_ofNat_of_zero_le h1
   subst ht
   have htl:t<ms.length:=by omega
   have hrow:=hm.2 t htl
   have hle:decide (out.length+([(Move.mk (0:Int) (t:Int))]:(List Move)).length≤lim)=true:=dt (by simp only [List.length_cons,List.length_nil];omega)
   simp only [lt_cast hlt,le0,Bool.and_true,cond_true,Int.toNat_natCast,at_lt hlt,hv,lt_cast htl,at_lt htl,hle]
   have hto:∀m∈ms[t],0≤m.to∧m.to<(sl.length:Int):=fun m hm'=>by
    obtain ⟨q,hq,rfl⟩:=List.mem_iff_getElem.1 hm'
    rw [hsn];exact hrow.2 q hq
   refine (weak2 L N hL K n sl n0 i0 li (li.length:Int) (idx:Int) ms[t] ms rows hsl hrow.1 hto L 0 _ (by omega) (by have:=hrow.1;omega) (by
    have:=hrow.1
    simp only [List.length_append,List.length_cons,List.length_nil];omega)).trans ?_
   have hfl:((ms[t]).flatMap (wkG sl)).length≤(ms[t]).length*60:=flat_len_le fun m hm'=>by
    unfold wkG
    split
    ·rw [List.length_map,List.getD]
     cases he:sl[m.to.toNat]? with
     |none=>simp
     |some r=>exact hsl r (List.mem_of_getElem? he)
    ·simp
   have h2r:=hrow.1
   rw [wi_nat (by omega),ih (idx+1) _ (by omega) (by omega) (by
    simp only [List.length_append,List.length_cons,List.length_nil,List.drop_zero];omega),drop_cons hlt,hv,List.flatMap_cons,List.drop_zero]
   have hF:wkF sl ms (t:Int)=Move.mk 0 (t:Int)::(ms[t]).flatMap (wkG sl):=by
    unfold wkF;rw [Int.toNat_natCast,getD_lt htl]
   rw [hF,List.append_assoc,List.append_assoc]
   rfl
  ·simp only [ge_cast hlt,cond_false,drop_end hlt,List.flatMap_nil,List.append_nil]
theorem weakF_len {sl:List (List Int)} {ms:List (List Move)} {li:List Int} (hm:Leads ms) (hsl:∀r∈sl,r.length≤60) (hli:∀v∈li,0≤v∧v<(ms.length:Int)) (hll:li.length≤60):(li.flatMap (wkF sl ms)).length≤3774873660:=by
 have h:=flat_len_le (l:=li) (f:=wkF sl ms) (B:=62914561) fun v hv=>by
  obtain ⟨h1,h2⟩:=hli v hv
  obtain ⟨t,ht⟩:=Int.eq_ofNat_of_zero_le h1
  subst ht
  have htl:t<ms.length:=by omega
  unfold wkF
  rw [Int.toNat_natCast,getD_lt htl,List.length_cons]
  have hrow:=hm.2 t htl
  have hfl:((ms[t]).flatMap (wkG sl)).length≤(ms[t]).length*60:=flat_len_le fun m hm'=>by
   unfold wkG
   split
   ·rw [List.length_map,List.getD]
    cases he:sl[m.to.toNat]? with
    |none=>simp
    |some r=>exact hsl r (List.mem_of_getElem? he)
   ·simp
  omega
 omega
theorem weakOf_ok (L N:Nat) (ms:List (List Move)) (hm:Leads ms) (hL:1048576<L):
  ∃sl:List (List Int),sl.length=ms.length∧(∀(j:Nat) (hj:j<sl.length),(sl[j]).length≤ms.length∧(∀v∈sl[j],0≤v∧v<(ms.length:Int))∧∀t:Nat,(t:Int)∈sl[j]↔Slip ms (fun s=>s=j) t)∧
   f36 L N ⟨ms⟩=some (wkOut (sl.map fun li=>tidyM (li.flatMap (wkF sl ms)))):=by
 have hlim:=lim_eq
 have hn:=hm.1
 obtain ⟨sl,e,hsn,hs⟩:=slips_ok L N ms hm hL
 refine ⟨sl,hsn,hs,?_⟩
 have hsl:∀r∈sl,r.length≤60:=fun r hr=>by
  obtain ⟨q,hq,rfl⟩:=List.mem_iff_getElem.1 hr
  have:=(hs q hq).1;omega
 show f36.b L N some ⟨ms⟩=_
 unfold f36.b f36.b'
 have e':f67 L N (Graph.mk (Graph.mk ms).moves)=some sl:=e
 rw [e',Option.bind_some]
 have key:∀(n i:Nat) (rows:List (List Move)),i≤ms.length→ms.length-i<n→rows.length=i→
   f36.l0 L N (fun z7=>f36.p0_e0 L N some z7) n sl (ms.length:Int) (i:Int) ms rows=some (wkOut (rows++(sl.drop i).map fun li=>tidyM (li.flatMap (wkF sl ms)))):=by
  intro n
  induction n with
  |zero=>intro i rows _ h;omega
  |succ n ih=>
   intro i rows hi hn' hr
   show f36.s0 L N _ (f36.l0 L N _ n) sl (ms.length:Int) (i:Int) ms rows=_
   unfold f36.s0 f36.s0'
   by_cases hlt:i<ms.length
   ·have hlt':i<sl.length:=by omega
    obtain ⟨h1,h2,-⟩:=hs i hlt'
    simp only [lt_cast hlt,lt_cast hlt',le0,Bool.and_true,cond_true,Int.toNat_natCast,at_lt hlt']
    refine (weak1 L N hL _ sl (ms.length:Int) (i:Int) sl[i] ms rows hm hsn hsl h2 (by omega) L 0 [] (by omega) (by omega) (by simp only [List.length_nil];omega)).trans ?_
    show f36.p1_e2' L N _ _ sl (ms.length:Int) (i:Int) ms ([]++((sl[i]).drop 0).flatMap (wkF sl ms)) rows=_
    unfold f36.p1_e2'
    have hfl:=weakF_len hm hsl h2 (by omega)
    rw [List.drop_zero,List.nil_append,fsortM_some (by omega),Option.bind_some]
    have hle:decide (rows.length+([tidyM ((sl[i]).flatMap (wkF sl ms))]:(List (List Move))).length≤lim)=true:=dt (by simp only [List.length_cons,List.length_nil];omega)
    rw [hle,cond_true,wi_nat (by omega),ih (i+1) _ (by omega) (by omega) (by simp [hr]),drop_cons hlt',List.map_cons,List.append_assoc]
    rfl
   ·simp only [ge_cast hlt,cond_false]
    rw [drop_end (by omega),List.map_nil,List.append_nil]
    rfl
 have:=key L 0 [] (by omega) (by omega) rfl
 rw [List.drop_zero,List.nil_append] at this
 exact this
end Go.Proofs.YthidlhjjnaldhaaGreatDoor.Ev
namespace Go.Proofs.YthidlhjjnaldhaaGreatDoor.Ev
open Go
set_option linter.unusedVariables false
set_option linter.unusedSimpArgs false
def wsG (sl:List (List Bool)) (n:Nat) (m:Move):List Move:=((List.range n).filter fun t=>(sl.getD m.to.toNat []).getD t false).map fun t:Nat=>Move.mk m.act (t:Int)
def wsF (b:Bool) (sl:List (List Bool)) (ms:List (List Move)) (s v:Nat):List Move:=
 if (sl.getD s []).getD v false=true then (if b then [] else [Move.mk 0 (v:Int)])++(ms.getD v []).flatMap (wsG sl ms.length) else []
theorem sweak3 {R:Type} (L N:Nat) (K:Bool→List (List Bool)→Int→Int→Int→List (List Move)→List Move→List (List Move)→Option R) (b:Bool) (sl:List (List Bool)) (i0 mid k:Int) (ms:List (List Move)) (act:Int) (u:Nat) (hu:u<sl.length) (hul:(sl[u]).length=ms.length) (rows:List (List Move)) (hms:ms.length≤60):
  ∀(n j:Nat) (out:List Move),j≤ms.length→ms.length-j<n→out.length+(ms.length-j)≤lim→
   f45.l3 L N K n b sl i0 mid k (j:Int) ms act (u:Int) out rows=K b sl i0 mid k ms (out++(((List.range ms.length).drop j).filter fun t=>(sl[u]).getD t false).map fun t:Nat=>Move.mk act (t:Int)) rows:=by
 intro n
 induction n with
 |zero=>intro j out _ h;omega
 |succ n ih=>
  intro j out hj hn ho
  show f45.s3 L N _ (f45.l3 L N _ n) b sl i0 mid k (j:Int) ms act (u:Int) out rows=_
  unfold f45.s3 f45.s3'
  by_cases hlt:j<ms.length
  ·have hle:decide (out.length+([(Move.mk act (j:Int))]:(List Move)).length≤lim)=true:=dt (by simp only [List.length_cons,List.length_nil];omega)
   have hj2:j<(sl[u]).length:=by omega
   have hjr:j<(List.range ms.length).length:=by rw [List.length_range];exact hlt
   simp only [lt_cast hlt,lt_cast hu,lt_cast hj2,le0,Bool.and_true,cond_true,Int.toNat_natCast,at_lt hu,hle,atD,wi_nat (show j<9223372036854775807 by omega)]
   rw [drop_cons hjr,List.getElem_range,List.filter_cons]
   cases hc:(sl[u]).getD j false with
   |true=>
    rw [cond_true,ih (j+1) _ (by omega) (by omega) (by simp only [List.length_append,List.length_cons,List.length_nil];omega),if_pos rfl,List.map_cons,List.append_assoc]
    rfl
   |false=>
    rw [cond_false,ih (j+1) _ (by omega) (by omega) (by omega),if_neg (by simp)]
  ·simp only [ge_cast hlt,cond_false]
   rw [drop_end (by rw [List.length_range];exact hlt),List.filter_nil,List.map_nil,List.append_nil]
theorem wsG_len (sl:List (List Bool)) (n:Nat) (m:Move):(wsG sl n m).length≤n:=by
 unfold wsG
 rw [List.length_map]
 exact Nat.le_trans (List.length_filter_le _ _) (by simp)
theorem sweak2 {R:Type} (L N:Nat) (hL:1048576<L) (k1_e2:Bool→List (List Bool)→Int→List (List Move)→List Move→List (List Move)→Option R) (m1:Nat) (b:Bool) (sl:List (List Bool)) (i0:Int) (v:Nat) (ms:List (List Move)) (hv:v<ms.length) (rows:List (List Move))
  (hm:Leads ms) (hsn:sl.length=ms.length) (hsl:∀(j:Nat) (hj:j<sl.length),(sl[j]).length=ms.length):
  ∀(n k:Nat) (out:List Move),k≤(ms[v]).length→(ms[v]).length-k<n→out.length+((ms[v]).length-k)*60≤lim→
   f45.l2 L N (fun z35 z36 z37 z38 z39 z40 z41=>f45.p2_e4 L N k1_e2 (f45.l1 L N k1_e2 m1) z35 z36 z37 z38 z39 z40 z41) n b sl i0 (v:Int) (k:Int) ms out rows
    =f45.l1 L N k1_e2 m1 b sl i0 (wi ((v:Int)+1)) ms (out++((ms[v]).drop k).flatMap (wsG sl ms.length)) rows:=by
 have hms:=hm.1
 have hrow:=hm.2 v hv
 intro n
 induction n with
 |zero=>intro k out _ h;omega
 |succ n ih=>
  intro k out hk hn ho
  show f45.s2 L N _ (f45.l2 L N _ n) b sl i0 (v:Int) (k:Int) ms out rows=_
  unfold f45.s2 f45.s2'
  by_cases hlt:k<(ms[v]).length
  ·have hstep:((ms[v]).length-k)*60=((ms[v]).length-(k+1))*60+60:=by
    rw [show (ms[v]).length-k=((ms[v]).length-(k+1))+1 by omega,Nat.add_mul]
   obtain ⟨t,ht,htl⟩:=hm.nat hv hlt
   have htl':t<sl.length:=by omega
   simp only [lt_cast hv,le0,Bool.and_true,cond_true,Int.toNat_natCast,at_lt hv,lt_cast hlt,at_lt hlt,ht]
   refine (sweak3 L N _ b sl i0 (v:Int) (k:Int) ms _ t htl' (hsl t htl') rows hms L 0 out (by omega) (by omega) (by omega)).trans ?_
   show f45.p3_e6' L N _ _ b sl i0 (v:Int) (k:Int) ms _ rows=_
   unfold f45.p3_e6'
   have hG:wsG sl ms.length (ms[v])[k]=((List.range ms.length).filter fun t'=>(sl[t]).getD t' false).map fun t':Nat=>Move.mk ((ms[v])[k]).act (t':Int):=by
    unfold wsG
    rw [ht,Int.toNat_natCast,getD_lt htl']
   have hGl:=wsG_len sl ms.length (ms[v])[k]
   rw [hG] at hGl
   rw [List.drop_zero,wi_nat (by omega),ih (k+1) _ (by omega) (by omega) (by rw [List.length_append];omega),drop_cons hlt,List.flatMap_cons,hG,List.append_assoc]
  ·simp only [lt_cast hv,le0,Bool.and_true,cond_true,Int.toNat_natCast,at_lt hv,ge_cast hlt,cond_false]
   rw [drop_end hlt,List.flatMap_nil,List.append_nil]
   rfl
theorem wsF_len (b:Bool) {sl:List (List Bool)} {ms:List (List Move)} (hm:Leads ms) (s v:Nat) (hv:v<ms.length):(wsF b sl ms s v).length≤62914561:=by
 have hms:=hm.1
 have hrow:=(hm.2 v hv).1
 have hfl:((ms[v]).flatMap (wsG sl ms.length)).length≤(ms[v]).length*ms.length:=flat_len_le fun m _=>wsG_len sl ms.length m
 have h2:(ms[v]).length*ms.length≤(ms[v]).length*60:=Nat.mul_le_mul (Nat.le_refl _) hms
 unfold wsF
 split
 ·rw [getD_lt hv,List.length_append]
  cases b<;>simp only [Bool.false_eq_true,if_true,if_false,List.length_cons,List.length_nil]<;>omega
 ·simp
theorem sweak1 {R:Type} (L N:Nat) (hL:1048576<L) (K:Bool→List (List Bool)→Int→List (List Move)→List Move→List (List Move)→Option R) (b:Bool) (sl:List (List Bool)) (i0:Nat) (ms:List (List Move)) (hi0:i0<ms.length) (rows:List (List Move))
  (hm:Leads ms) (hsn:sl.length=ms.length) (hsl:∀(j:Nat) (hj:j<sl.length),(sl[j]).length=ms.length):
  ∀(n v:Nat) (out:List Move),v≤ms.length→ms.length-v<n→out.length+(ms.length-v)*62914561≤lim→
   f45.l1 L N K n b sl (i0:Int) (v:Int) ms out rows=K b sl (i0:Int) ms (out++((List.range ms.length).drop v).flatMap (wsF b sl ms i0)) rows:=by
 have hms:=hm.1
 intro n
 induction n with
 |zero=>intro k out _ h;omega
 |succ n ih=>
  intro v out hk hn ho
  show f45.s1 L N _ (f45.l1 L N _ n) b sl (i0:Int) (v:Int) ms out rows=_
  unfold f45.s1 f45.s1'
  by_cases hlt:v<ms.length
  ·have hstep:(ms.length-v)*62914561=(ms.length-(v+1))*62914561+62914561:=by
    rw [show ms.length-v=(ms.length-(v+1))+1 by omega,Nat.add_mul]
   have hi':i0<sl.length:=by omega
   have hv2:v<(sl[i0]).length:=by rw [hsl];exact hlt
   have hvr:v<(List.range ms.length).length:=by rw [List.length_range];exact hlt
   have hrow:=(hm.2 v hlt).1
   have hfl:=wsF_len b (sl:=sl) hm i0 v hlt
   simp only [lt_cast hlt,lt_cast hi',lt_cast hv2,le0,Bool.and_true,cond_true,Int.toNat_natCast,at_lt hi',atD,wi_nat (show v<9223372036854775807 by omega)]
   rw [drop_cons hvr,List.getElem_range,List.flatMap_cons]
   have hF:wsF b sl ms i0 v=if (sl[i0]).getD v false=true then (if b then [] else [Move.mk 0 (v:Int)])++(ms[v]).flatMap (wsG sl ms.length) else []:=by
    unfold wsF;rw [getD_lt hi',getD_lt hlt]
   rw [hF] at hfl⊢
   cases hc:(sl[i0]).getD v false with
   |false=>
    clear hfl hrow
    have e1:out.length+(ms.length-(v+1))*62914561≤lim:=by rw [hstep] at ho;exact Nat.le_trans (Nat.add_le_add_left (Nat.le_add_right _ _) _) ho
    rw [Bool.not_false,cond_true,ih (v+1) _ (by omega) (by omega) e1,if_neg (by simp)]
    rfl
   |true=>
    rw [hc,if_pos rfl] at hfl
    rw [Bool.not_true,cond_false,if_pos rfl]
    have go:∀(pre:List Move),(pre++(ms[v]).flatMap (wsG sl ms.length)).length≤62914561→pre.length≤1→f45.j0' L N K (f45.l1 L N K n) (f45.l2 L N (fun z35 z36 z37 z38 z39 z40 z41=>f45.p2_e4 L N K (f45.l1 L N K n) z35 z36 z37 z38 z39 z40 z41) L) b sl (i0:Int) (v:Int) ms (out++pre) rows
      =K b sl (i0:Int) ms (out++((pre++(ms[v]).flatMap (wsG sl ms.length))++((List.range ms.length).drop (v+1)).flatMap (wsF b sl ms i0))) rows:=by
     intro pre hpl hp1
     unfold f45.j0'
     refine (sweak2 L N hL K n b sl (i0:Int) v ms hlt rows hm hsn hsl L 0 _ (by omega) (by omega) (by rw [List.length_append];omega)).trans ?_
     rw [List.drop_zero,wi_nat (by omega),ih (v+1) _ (by omega) (by omega) (by rw [List.length_append] at hpl;rw [List.length_append,List.length_append];omega)]
     simp only [List.append_assoc]
    cases b with
    |true=>
     have h:=go [] (by simpa using hfl) (by simp)
     rw [List.append_nil] at h
     simpa using h
    |false=>
     have h:=go [Move.mk 0 (v:Int)] (by simpa using hfl) (by simp)
     have hle:decide (out.length+([(Move.mk (0:Int) (v:Int))]:(List Move)).length≤lim)=true:=dt (by simp only [List.length_cons,List.length_nil];omega)
     rw [Bool.not_false,cond_true,hle,cond_true]
     simpa using h
  ·simp only [ge_cast hlt,cond_false]
   rw [drop_end (by rw [List.length_range];exact hlt),List.flatMap_nil,List.append_nil]
theorem l5Weak_ok (L N:Nat) (b:Bool) (ms:List (List Move)) (hm:Leads ms) (hL:8589934592≤L):
  ∃(sl:List (List Bool)) (rows:List (List Move)),sl.length=ms.length∧(∀(j:Nat) (hj:j<sl.length),(sl[j]).length=ms.length∧∀t:Nat,Tr sl[j] t↔Slip ms (fun s=>s=j) t)∧
   f45 L N ⟨ms⟩ b=some ⟨rows⟩∧rows.length=ms.length∧∀(j:Nat) (hj:j<rows.length),RisesM rows[j]∧∀v,v∈rows[j]↔v∈(List.range ms.length).flatMap (wsF b sl ms j):=by
 have hlim:=lim_eq
 have hn:=hm.1
 obtain ⟨sl,e,hsn,hs⟩:=l5Slips_ok L N ms hm (by omega)
 refine ⟨sl,?_⟩
 have hsl:∀(j:Nat) (hj:j<sl.length),(sl[j]).length=ms.length:=fun j hj=>(hs j hj).1
 have e':f77 L N (Graph.mk (Graph.mk ms).moves)=some sl:=e
 have key:∀(n i:Nat) (rows:List (List Move)),i≤ms.length→ms.length-i<n→rows.length=i→(∀(j:Nat) (hj:j<rows.length),RisesM rows[j]∧∀v,v∈rows[j]↔v∈(List.range ms.length).flatMap (wsF b sl ms j))→
   ∃rows',f45.l0 L N (fun z6=>f45.p0_e0 L N some z6) n b sl (i:Int) ms rows=some ⟨rows'⟩∧rows'.length=ms.length∧∀(j:Nat) (hj:j<rows'.length),RisesM rows'[j]∧∀v,v∈rows'[j]↔v∈(List.range ms.length).flatMap (wsF b sl ms j):=by
  intro n
  induction n with
  |zero=>intro i rows _ h;omega
  |succ n ih=>
   intro i rows hi hn' hr hp
   show ∃rows',f45.s0 L N _ (f45.l0 L N _ n) b sl (i:Int) ms rows=_∧_
   unfold f45.s0 f45.s0'
   by_cases hlt:i<ms.length
   ·simp only [lt_cast hlt,cond_true]
    have h1:=sweak1 L N (by omega) (fun z14 z15 z16 z17 z18 z19=>f45.p1_e2 L N (fun z6=>f45.p0_e0 L N some z6) (f45.l0 L N (fun z6=>f45.p0_e0 L N some z6) n) z14 z15 z16 z17 z18 z19) b sl i ms hlt rows hm hsn hsl L 0 [] (by omega) (by omega) (by simp only [List.length_nil];omega)
    have h2:f45.l1 L N (fun z14 z15 z16 z17 z18 z19=>f45.p1_e2 L N (fun z6=>f45.p0_e0 L N some z6) (f45.l0 L N (fun z6=>f45.p0_e0 L N some z6) n) z14 z15 z16 z17 z18 z19) L b sl (i:Int) (0:Int) ms [] rows=_:=h1
    rw [h2,List.drop_zero,List.nil_append]
    show ∃rows',f45.p1_e2' L N _ _ b sl (i:Int) ms _ rows=_∧_
    unfold f45.p1_e2'
    have hfl:((List.range ms.length).flatMap (wsF b sl ms i)).length≤(List.range ms.length).length*62914561:=flat_len_le fun v hv=>wsF_len b hm i v (List.mem_range.1 hv)
    rw [List.length_range] at hfl
    obtain ⟨ys,q1,q2,q3,q4⟩:=l3Sorted_ok L N ((List.range ms.length).flatMap (wsF b sl ms i)) (by omega) (by omega)
    have hle:decide (rows.length+([ys]:(List (List Move))).length≤lim)=true:=dt (by simp only [List.length_cons,List.length_nil];omega)
    rw [q1,Option.bind_some,hle,cond_true,wi_nat (by omega)]
    exact ih (i+1) _ (by omega) (by omega) (by simp [hr]) (rows_snoc (P:=fun j r=>RisesM r∧∀v,v∈r↔v∈(List.range ms.length).flatMap (wsF b sl ms j)) hp (by rw [hr];exact ⟨q2,q3⟩))
   ·simp only [ge_cast hlt,cond_false]
    have hi':i=ms.length:=by omega
    subst hi'
    exact ⟨rows,rfl,hr,hp⟩
 obtain ⟨rows,h1,h2⟩:=key L 0 [] (by omega) (by omega) rfl (fun j hj=>by simp at hj)
 refine ⟨rows,hsn,hs,?_,h2⟩
 show f45.b L N some ⟨ms⟩ b=_
 unfold f45.b f45.b'
 rw [e',Option.bind_some]
 exact h1
theorem Slip.trans {ms:List (List Move)} {X Y:Nat→Prop} {u:Nat} (h:Slip ms Y u) (hX:∀t,Y t→Slip ms X t):Slip ms X u:=by
 induction h with
 |base t hy=>exact hX t hy
 |step s t _ hl k hk ha ht ih=>exact .step s t ih hl k hk ha ht
theorem Slip.lt {ms:List (List Move)} (hm:Leads ms) {X:Nat→Prop} (hX:∀t,X t→t<ms.length) {u:Nat} (h:Slip ms X u):u<ms.length:=by
 induction h with
 |base t hx=>exact hX t hx
 |step s t _ hl k hk ha ht ih=>
  obtain ⟨t',h1,h2⟩:=hm.nat hl hk
  rw [ht] at h1
  omega
def WkS (ms:List (List Move)) (s:Nat) (m:Move):Prop:=∃mid,Slip ms (fun x=>x=s) mid∧
 ((m.act=0∧m.to=(mid:Int))∨∃(hs:mid<ms.length) (k:Nat) (hk:k<(ms[mid]).length) (t u:Nat),(ms[mid])[k].act≠0∧m.act=(ms[mid])[k].act∧(ms[mid])[k].to=(t:Int)∧Slip ms (fun x=>x=t) u∧m.to=(u:Int))
theorem wk_mem {ms:List (List Move)} (hm:Leads ms) {sl:List (List Int)} (hsn:sl.length=ms.length) (hs:∀(j:Nat) (hj:j<sl.length),(sl[j]).length≤ms.length∧(∀v∈sl[j],0≤v∧v<(ms.length:Int))∧∀t:Nat,(t:Int)∈sl[j]↔Slip ms (fun s=>s=j) t)
  (s:Nat) (hsl:s<sl.length) (m:Move):m∈(sl[s]).flatMap (wkF sl ms)↔WkS ms s m:=by
 obtain ⟨h1,h2,h3⟩:=hs s hsl
 rw [List.mem_flatMap]
 constructor
 ·rintro ⟨v,hv,hmv⟩
  obtain ⟨hv0,hvn⟩:=h2 v hv
  obtain ⟨mid,hmid⟩:=Int.eq_ofNat_of_zero_le hv0
  subst hmid
  have hml:mid<ms.length:=by omega
  refine ⟨mid,(h3 mid).1 hv,?_⟩
  unfold wkF at hmv
  rw [Int.toNat_natCast,getD_lt hml] at hmv
  rcases List.mem_cons.1 hmv with e|hmv
  ·exact .inl ⟨by rw [e],by rw [e]⟩
  ·obtain ⟨q,hq,hmq⟩:=List.mem_flatMap.1 hmv
   obtain ⟨k,hk,rfl⟩:=List.mem_iff_getElem.1 hq
   obtain ⟨t,ht,htl⟩:=hm.nat hml hk
   have htl':t<sl.length:=by omega
   unfold wkG at hmq
   split at hmq
   ·rename_i ha
    rw [ht,Int.toNat_natCast,getD_lt htl'] at hmq
    obtain ⟨w,hw,rfl⟩:=List.mem_map.1 hmq
    obtain ⟨hw0,hwn⟩:=(hs t htl').2.1 w hw
    obtain ⟨u,hu⟩:=Int.eq_ofNat_of_zero_le hw0
    subst hu
    exact .inr ⟨hml,k,hk,t,u,ha,rfl,ht,((hs t htl').2.2 u).1 hw,rfl⟩
   ·cases hmq
 ·rintro ⟨mid,hsm,h⟩
  have hml:mid<ms.length:=hsm.lt hm (fun t ht=>by omega)
  refine ⟨(mid:Int),(h3 mid).2 hsm,?_⟩
  unfold wkF
  rw [Int.toNat_natCast,getD_lt hml]
  rcases h with ⟨ha,ht⟩|⟨_,k,hk,t,u,ha,hact,ht,hu,hto⟩
  ·refine List.mem_cons.2 (.inl ?_)
   rw [←mv_eta m,ha,ht]
  ·obtain ⟨t',ht',htl⟩:=hm.nat hml hk
   rw [ht] at ht'
   obtain rfl:t=t':=by omega
   have htl':t<sl.length:=by omega
   refine List.mem_cons.2 (.inr (List.mem_flatMap.2 ⟨_,List.getElem_mem hk,?_⟩))
   unfold wkG
   rw [if_pos ha,ht,Int.toNat_natCast,getD_lt htl']
   refine List.mem_map.2 ⟨(u:Int),((hs t htl').2.2 u).2 hu,?_⟩
   rw [←mv_eta m,hact,hto]
theorem ws_mem {ms:List (List Move)} (hm:Leads ms) {sl:List (List Bool)} (hsn:sl.length=ms.length) (hs:∀(j:Nat) (hj:j<sl.length),(sl[j]).length=ms.length∧∀t:Nat,Tr sl[j] t↔Slip ms (fun s=>s=j) t)
  (s:Nat) (hsl:s<sl.length) (m:Move):m∈(List.range ms.length).flatMap (wsF false sl ms s)↔WkS ms s m:=by
 obtain ⟨h1,h3⟩:=hs s hsl
 rw [List.mem_flatMap]
 constructor
 ·rintro ⟨mid,hv,hmv⟩
  have hml:=List.mem_range.1 hv
  unfold wsF at hmv
  rw [getD_lt hsl,getD_lt hml] at hmv
  split at hmv
  ·rename_i hT
   have hslip:=(h3 mid).1 hT
   rcases List.mem_append.1 hmv with e|hmv
   ·have e:m∈[Move.mk 0 (mid:Int)]:=e
    rw [List.mem_singleton] at e
    exact ⟨mid,hslip,.inl ⟨by rw [e],by rw [e]⟩⟩
   ·obtain ⟨q,hq,hmq⟩:=List.mem_flatMap.1 hmv
    obtain ⟨k,hk,rfl⟩:=List.mem_iff_getElem.1 hq
    obtain ⟨t,ht,htl⟩:=hm.nat hml hk
    have htl':t<sl.length:=by omega
    unfold wsG at hmq
    rw [ht,Int.toNat_natCast,getD_lt htl'] at hmq
    obtain ⟨u,hu,rfl⟩:=List.mem_map.1 hmq
    have hu2:=(List.mem_filter.1 hu).2
    have hut:=((hs t htl').2 u).1 hu2
    by_cases ha:(ms[mid])[k].act=0
    ·refine ⟨u,hut.trans fun x hx=>?_,.inl ⟨ha,rfl⟩⟩
     subst hx
     exact .step mid x hslip hml k hk ha ht
    ·exact ⟨mid,hslip,.inr ⟨hml,k,hk,t,u,ha,rfl,ht,hut,rfl⟩⟩
  ·cases hmv
 ·rintro ⟨mid,hsm,h⟩
  have hml:mid<ms.length:=hsm.lt hm (fun t ht=>by omega)
  refine ⟨mid,List.mem_range.2 hml,?_⟩
  unfold wsF
  have hT:(sl[s]).getD mid false=true:=(h3 mid).2 hsm
  rw [getD_lt hsl,getD_lt hml,if_pos hT]
  rcases h with ⟨ha,ht⟩|⟨_,k,hk,t,u,ha,hact,ht,hu,hto⟩
  ·refine List.mem_append.2 (.inl (List.mem_singleton.2 ?_))
   rw [←mv_eta m,ha,ht]
  ·obtain ⟨t',ht',htl⟩:=hm.nat hml hk
   rw [ht] at ht'
   obtain rfl:t=t':=by omega
   have htl':t<sl.length:=by omega
   refine List.mem_append.2 (.inr (List.mem_flatMap.2 ⟨_,List.getElem_mem hk,?_⟩))
   unfold wsG
   rw [ht,Int.toNat_natCast,getD_lt htl']
   have hul:u<ms.length:=hu.lt hm (fun x hx=>by omega)
   refine List.mem_map.2 ⟨u,List.mem_filter.2 ⟨List.mem_range.2 hul,((hs t htl').2 u).2 hu⟩,?_⟩
   rw [←mv_eta m,hact,hto]
theorem weak_eq (L N:Nat) (ms:List (List Move)) (hm:Leads ms) (hL:8589934592≤L):
  ∃rows,f36 L N ⟨ms⟩=some (wkOut rows)∧f45 L N ⟨ms⟩ false=some ⟨rows⟩∧rows.length=ms.length∧∀(j:Nat) (hj:j<rows.length),RisesM rows[j]∧∀m,m∈rows[j]↔WkS ms j m:=by
 obtain ⟨s1,a1,a2,a3⟩:=weakOf_ok L N ms hm (by omega)
 obtain ⟨s2,rows,b1,b2,b3,b4,b5⟩:=l5Weak_ok L N false ms hm hL
 have hmem:∀(j:Nat) (hj:j<rows.length),RisesM rows[j]∧∀m,m∈rows[j]↔WkS ms j m:=fun j hj=>⟨(b5 j hj).1,fun m=>((b5 j hj).2 m).trans (ws_mem hm b1 b2 j (by omega) m)⟩
 have he:(s1.map fun li=>tidyM (li.flatMap (wkF s1 ms)))=rows:=by
  apply List.ext_getElem
  ·rw [List.length_map];omega
  ·intro j h1 h2
   rw [List.getElem_map]
   have hj1:j<s1.length:=by omega
   exact risesM_ext (tidyM_rises _) (hmem j h2).1 fun x=>((tidyM_mem _ x).trans (wk_mem hm a1 a2 j hj1 x)).trans ((hmem j h2).2 x).symm
 rw [he] at a3
 exact ⟨rows,a3,b3,b4,hmem⟩
end Go.Proofs.YthidlhjjnaldhaaGreatDoor.Ev
namespace Go.Proofs.YthidlhjjnaldhaaGreatDoor.Ev
open Go
set_option linter.unusedVariables false
set_option linter.unusedSimpArgs false
def upM (k:Int) (n:Nat):List Move:=(List.range n).map fun (i:Nat)=>Move.mk (k+2*(i:Int)) (k+2*(i:Int)+1)
theorem upM_len (k:Int) (n:Nat):(upM k n).length=n:=by simp [upM]
def Mk:Int→List (List Move)→Int→Prop
 |k,[],j=>j=k
 |k,r::rs,j=>r=upM k r.length∧Mk (k+2*(r.length:Int)) rs j
theorem Mk.snoc:∀{k j:Int} {rs:List (List Move)} (n:Nat),Mk k rs j→Mk k (rs++[upM j n]) (j+2*(n:Int))
 |k,j,[],n,h=>by
  have h:j=k:=h
  subst h
  exact ⟨by rw [upM_len],by rw [upM_len];exact rfl⟩
 |k,j,r::rs,n,h=>⟨h.1,Mk.snoc n h.2⟩
end Go.Proofs.YthidlhjjnaldhaaGreatDoor.Ev
namespace Go.Proofs.YthidlhjjnaldhaaGreatDoor.Ev
open Go
set_option linter.unusedVariables false
set_option linter.unusedSimpArgs false
end Go.Proofs.YthidlhjjnaldhaaGreatDoor.Ev
namespace Go.Proofs.YthidlhjjnaldhaaGreatDoor.Ev
open Go
set_option linter.unusedVariables false
set_option linter.unusedSimpArgs false
end Go.Proofs.YthidlhjjnaldhaaGreatDoor.Ev
namespace Go.Proofs.YthidlhjjnaldhaaGreatDoor.Ev
open Go
set_option linter.unusedVariables false
set_option linter.unusedSimpArgs false
def NextE (E:Nat→Nat→Prop) (n:Nat) (q:List Int):Prop:=q.length=n∧∀(i:Nat) (hi:i<q.length),∃j:Nat,q[i]=(j:Int)∧j≤i∧E j i∧∀j',j'<j→¬E j' i
theorem NextE.uniq {E:Nat→Nat→Prop} {n:Nat} {q q':List Int} (h:NextE E n q) (h':NextE E n q'):q=q':=by
 apply List.ext_getElem
 ·rw [h.1,h'.1]
 ·intro i h1 h2
  obtain ⟨j,a1,a2,a3,a4⟩:=h.2 i h1
  obtain ⟨k,b1,b2,b3,b4⟩:=h'.2 i h2
  have:j=k:=by
   rcases Nat.lt_trichotomy j k with h|h|h
   ·exact absurd a3 (b4 j h)
   ·exact h
   ·exact absurd b3 (a4 k h)
  rw [a1,b1,this]
theorem NextE.congr {E F:Nat→Nat→Prop} {n:Nat} {q:List Int} (h:NextE E n q) (he:∀i j,j≤i→i<n→(E j i↔F j i)):NextE F n q:=
 ⟨h.1,fun i hi=>by
  obtain ⟨j,a1,a2,a3,a4⟩:=h.2 i hi
  have hn:i<n:=by rw [←h.1];exact hi
  exact ⟨j,a1,a2,(he i j a2 hn).1 a3,fun j' hj' hf=>a4 j' hj' ((he i j' (by omega) hn).2 hf)⟩⟩
def Low (p:List Int):Prop:=∀(i:Nat) (hi:i<p.length),0≤p[i]∧p[i]≤(i:Int)
theorem low_zero (n:Nat):Low (List.replicate n (0:Int)):=fun i hi=>by rw [List.getElem_replicate];omega
theorem NextE.low {E:Nat→Nat→Prop} {n:Nat} {q:List Int} (h:NextE E n q):Low q:=fun i hi=>by
 obtain ⟨j,a1,a2,-⟩:=h.2 i hi
 rw [a1];omega
theorem NextE.ge {E:Nat→Nat→Prop} {n:Nat} {p q:List Int} (h:NextE E n q) (hp:p.length=n) (hl:Low p) (hE:∀j i,E j i→p.getD j 0=p.getD i 0):∀(i:Nat) (h1:i<p.length) (h2:i<q.length),p[i]≤q[i]:=fun i h1 h2=>by
 obtain ⟨j,a1,a2,a3,-⟩:=h.2 i h2
 have e:=hE j i a3
 have hj:j<p.length:=by omega
 rw [getD_lt h1,getD_lt hj] at e
 have:=(hl j hj).2
 rw [a1];omega
def wgt (p:List Int):Nat:=(p.map Int.toNat).sum
theorem wgt_lt:∀{p q:List Int},p.length=q.length→(∀(i:Nat) (h1:i<p.length) (h2:i<q.length),0≤p[i]∧p[i]≤q[i])→p≠q→wgt p<wgt q
 |[],[],_,_,h=>absurd rfl h
 |[],_::_,h,_,_=>by simp at h
 |_::_,[],h,_,_=>by simp at h
 |a::p,b::q,hl,hle,hne=>by
  have h0:=hle 0 (by simp) (by simp)
  have hl':p.length=q.length:=by simpa using hl
  have htl:∀(i:Nat) (h1:i<p.length) (h2:i<q.length),0≤p[i]∧p[i]≤q[i]:=fun i h1 h2=>hle (i+1) (by simp;omega) (by simp;omega)
  simp only [List.getElem_cons_zero] at h0
  unfold wgt
  rw [List.map_cons,List.map_cons,List.sum_cons,List.sum_cons]
  by_cases e:a=b
  ·subst e
   have:=wgt_lt hl' htl (fun e=>hne (by rw [e]))
   unfold wgt at this
   omega
  ·by_cases e2:p=q
   ·subst e2;omega
   ·have:=wgt_lt hl' htl e2
    unfold wgt at this
    omega
theorem wgt_le:∀{p:List Int} {B:Nat},(∀x∈p,x≤(B:Int))→wgt p≤p.length*B
 |[],_,_=>by simp [wgt]
 |a::p,B,h=>by
  have h1:=h a (.head _)
  have h2:=wgt_le (p:=p) (B:=B) fun x hx=>h x (.tail _ hx)
  unfold wgt at h2⊢
  rw [List.map_cons,List.sum_cons,List.length_cons,Nat.add_mul,Nat.one_mul]
  omega
def Sig (ms:List (List Move)) (p:List Int) (i:Nat) (m:Move):Prop:=∃(h:i<ms.length) (k:Nat) (hk:k<(ms[i]).length),m.act=(ms[i])[k].act∧m.to=p.getD (ms[i])[k].to.toNat 0
def Akin (ms:List (List Move)) (p:List Int) (j i:Nat):Prop:=p.getD j 0=p.getD i 0∧∀m,Sig ms p i m↔Sig ms p j m
theorem Akin.refl (ms:List (List Move)) (p:List Int) (i:Nat):Akin ms p i i:=⟨rfl,fun _=>Iff.rfl⟩
theorem l4Has_ok (L N:Nat) (ms:List (List Move)) (hm:Leads ms) (hL:1048576<L) (p:List Int) (hp:p.length=ms.length) (b:Nat) (hb:b<ms.length) (act c:Int):
  ∃r,f79 L N ⟨ms⟩ (b:Int) act p c=some r∧(r=true↔Sig ms p b ⟨act,c⟩):=by
 have hrow:=(hm.2 b hb).1
 show ∃r,f79.b L N some ⟨ms⟩ (b:Int) act p c=some r∧_
 unfold f79.b f79.b'
 have key:∀(n k:Nat),k≤(ms[b]).length→(ms[b]).length-k<n→(∀k' (hk':k'<(ms[b]).length),k'<k→¬((ms[b])[k'].act=act∧p.getD (ms[b])[k'].to.toNat 0=c))→
   ∃r,f79.l0 L N (f79.p0_e0 L N some) (fun z13=>f79.p0_r L N some z13) n (b:Int) act p c (k:Int) ms=some r∧(r=true↔Sig ms p b ⟨act,c⟩):=by
  intro n
  induction n with
  |zero=>intro k _ h;omega
  |succ n ih=>
   intro k hk hn hno
   show ∃r,f79.s0 L N _ _ (f79.l0 L N _ _ n) (b:Int) act p c (k:Int) ms=some r∧_
   unfold f79.s0 f79.s0'
   by_cases hlt:k<(ms[b]).length
   ·obtain ⟨t,ht,htl⟩:=hm.nat hb hlt
    have htp:t<p.length:=by omega
    simp only [le0,lt_cast hb,Bool.and_true,cond_true,Int.toNat_natCast,at_lt hb,lt_cast hlt,at_lt hlt,ht,lt_cast htp,atD]
    have hpt:p.getD t 0=p.getD (ms[b])[k].to.toNat 0:=by rw [ht,Int.toNat_natCast]
    by_cases h1:(ms[b])[k].act=act
    ·rw [show ((ms[b])[k].act==act)=true by simpa using h1,cond_true]
     by_cases h2:p.getD t 0=c
     ·rw [show (p.getD t 0==c)=true by simpa using h2,cond_true]
      exact ⟨true,rfl,by simp only [true_iff];exact ⟨hb,k,hlt,h1.symm,by rw [←hpt];exact h2.symm⟩⟩
     ·rw [show (p.getD t 0==c)=false by simpa using h2,cond_false,wi_nat (by omega)]
      refine ih (k+1) (by omega) (by omega) fun k' hk' hlt'=>?_
      by_cases e:k'=k
      ·subst e;rintro ⟨_,q⟩;exact h2 (by rw [hpt];exact q)
      ·exact hno k' hk' (by omega)
    ·rw [show ((ms[b])[k].act==act)=false by simpa using h1,cond_false,wi_nat (by omega)]
     refine ih (k+1) (by omega) (by omega) fun k' hk' hlt'=>?_
     by_cases e:k'=k
     ·subst e;rintro ⟨q,_⟩;exact h1 q
     ·exact hno k' hk' (by omega)
   ·simp only [le0,lt_cast hb,Bool.and_true,cond_true,Int.toNat_natCast,at_lt hb,ge_cast hlt,cond_false]
    refine ⟨false,rfl,?_⟩
    simp only [Bool.false_eq_true,false_iff]
    rintro ⟨_,k',hk',q1,q2⟩
    exact hno k' hk' (by omega) ⟨q1.symm,q2.symm⟩
 exact key L 0 (by omega) (by omega) (fun _ _ h=>by omega)
theorem l4Covers_ok (L N:Nat) (ms:List (List Move)) (hm:Leads ms) (hL:1048576<L) (p:List Int) (hp:p.length=ms.length) (a b:Nat) (ha:a<ms.length) (hb:b<ms.length):
  ∃r,f191 L N ⟨ms⟩ (a:Int) (b:Int) p=some r∧(r=true↔∀m,Sig ms p a m→Sig ms p b m):=by
 have hrow:=(hm.2 a ha).1
 show ∃r,f191.b L N some ⟨ms⟩ (a:Int) (b:Int) p=some r∧_
 unfold f191.b f191.b'
 have key:∀(n k:Nat),k≤(ms[a]).length→(ms[a]).length-k<n→(∀k' (hk':k'<(ms[a]).length),k'<k→Sig ms p b ⟨(ms[a])[k'].act,p.getD (ms[a])[k'].to.toNat 0⟩)→
   ∃r,f191.l0 L N (f191.p0_e0 L N some) (fun z6=>f191.p0_r L N some z6) n (a:Int) (b:Int) p (k:Int) ms=some r∧(r=true↔∀m,Sig ms p a m→Sig ms p b m):=by
  intro n
  induction n with
  |zero=>intro k _ h;omega
  |succ n ih=>
   intro k hk hn hyes
   show ∃r,f191.s0 L N _ _ (f191.l0 L N _ _ n) (a:Int) (b:Int) p (k:Int) ms=some r∧_
   unfold f191.s0 f191.s0'
   by_cases hlt:k<(ms[a]).length
   ·obtain ⟨t,ht,htl⟩:=hm.nat ha hlt
    have htp:t<p.length:=by omega
    obtain ⟨r,hr,hr2⟩:=l4Has_ok L N ms hm hL p hp b hb (ms[a])[k].act (p.getD t 0)
    have hpt:p.getD t 0=p.getD (ms[a])[k].to.toNat 0:=by rw [ht,Int.toNat_natCast]
    simp only [le0,lt_cast ha,Bool.and_true,cond_true,Int.toNat_natCast,at_lt ha,lt_cast hlt,at_lt hlt,ht,lt_cast htp,atD,hr,Option.bind_some]
    cases r with
    |true=>
     rw [Bool.not_true,cond_false,wi_nat (by omega)]
     refine ih (k+1) (by omega) (by omega) fun k' hk' hlt'=>?_
     by_cases e:k'=k
     ·subst e;rw [←hpt];exact hr2.1 rfl
     ·exact hyes k' hk' (by omega)
    |false=>
     rw [Bool.not_false,cond_true]
     refine ⟨false,rfl,?_⟩
     simp only [Bool.false_eq_true,false_iff]
     intro h
     exact absurd (hr2.2 (h _ ⟨ha,k,hlt,rfl,hpt⟩)) (by simp)
   ·simp only [le0,lt_cast ha,Bool.and_true,cond_true,Int.toNat_natCast,at_lt ha,ge_cast hlt,cond_false]
    refine ⟨true,rfl,?_⟩
    simp only [true_iff]
    rintro m ⟨_,k',hk',q1,q2⟩
    have:=hyes k' hk' (by omega)
    rw [←q1,←q2] at this
    exact this
 exact key L 0 (by omega) (by omega) (fun _ _ h=>by omega)
theorem l4Next_ok (L N:Nat) (ms:List (List Move)) (hm:Leads ms) (hL:1048576<L) (p:List Int) (hp:p.length=ms.length):
  ∃q,f160 L N ⟨ms⟩ p=some q∧NextE (Akin ms p) ms.length q:=by
 have hlim:=lim_eq
 have hn60:=hm.1
 have inner:∀{R:Type} (K:List Int→Int→Int→List (List Move)→List Int→Option R) (i:Nat) (hi:i<ms.length) (out:List Int) (n c best:Nat) (z:Int),z=(c:Int)-1→c<n→c≤best→best≤i→Akin ms p best i→(∀j',c≤j'→j'<best→¬Akin ms p j' i)→
   ∃b':Nat,b'≤i∧Akin ms p b' i∧(∀j',j'<b'→¬Akin ms p j' i)∧f160.l1 L N K n p (i:Int) (best:Int) z ms out=K p (i:Int) (b':Int) ms out:=by
  intro R K i hi out n
  induction n with
  |zero=>intro c best z _ h;omega
  |succ n ih=>
   intro c best z hz hn hcb hbi hE hno
   show ∃b':Nat,_∧_∧_∧f160.s1 L N _ (f160.l1 L N _ n) p (i:Int) (best:Int) z ms out=_
   unfold f160.s1 f160.s1'
   cases c with
   |zero=>
    rw [show decide (z≥0)=false from decide_eq_false (by omega),cond_false]
    exact ⟨best,hbi,hE,fun j' h=>hno j' (by omega) h,rfl⟩
   |succ c=>
    have hz':z=(c:Int):=by omega
    subst hz'
    have hc:c<p.length:=by omega
    have hip:i<p.length:=by omega
    have hw:wi ((c:Int)-1)=(c:Int)-1:=wi_id (by omega) (by omega)
    rw [show decide ((c:Int)≥0)=true from decide_eq_true (by omega),cond_true]
    simp only [le0,lt_cast hc,lt_cast hip,Bool.and_true,cond_true,Int.toNat_natCast,atD,hw]
    have stay:¬Akin ms p c i→∃b':Nat,b'≤i∧Akin ms p b' i∧(∀j',j'<b'→¬Akin ms p j' i)∧f160.l1 L N K n p (i:Int) (best:Int) ((c:Int)-1) ms out=K p (i:Int) (b':Int) ms out:=fun hne=>
     ih c best ((c:Int)-1) rfl (by omega) (by omega) hbi hE fun j' h1 h2=>by
      by_cases e:j'=c
      ·subst e;exact hne
      ·exact hno j' (by omega) h2
    by_cases h1:p.getD c 0=p.getD i 0
    ·obtain ⟨r1,e1,f1⟩:=l4Covers_ok L N ms hm hL p hp i c hi (by omega)
     obtain ⟨r2,e2,f2⟩:=l4Covers_ok L N ms hm hL p hp c i (by omega) hi
     rw [show (p.getD c 0==p.getD i 0)=true by simpa using h1,cond_true]
     simp only [e1,e2,Option.bind_some]
     cases r1 with
     |false=>
      rw [cond_false]
      exact stay fun h=>absurd (f1.2 fun m hm'=>(h.2 m).1 hm') (by simp)
     |true=>
      rw [cond_true]
      cases r2 with
      |false=>
       rw [cond_false]
       exact stay fun h=>absurd (f2.2 fun m hm'=>(h.2 m).2 hm') (by simp)
      |true=>
       rw [cond_true]
       exact ih c c ((c:Int)-1) rfl (by omega) (Nat.le_refl _) (by omega) ⟨h1,fun m=>⟨f1.1 rfl m,f2.1 rfl m⟩⟩ fun j' h1 h2=>by omega
    ·rw [show (p.getD c 0==p.getD i 0)=false by simpa using h1,cond_false]
     exact stay fun h=>h1 h.1
 show ∃q,f160.b L N some ⟨ms⟩ p=some q∧_
 unfold f160.b f160.b'
 have key:∀(n i:Nat) (out:List Int),out.length=i→i≤ms.length→ms.length-i<n→(∀(i':Nat) (hi:i'<out.length),∃j:Nat,out[i']=(j:Int)∧j≤i'∧Akin ms p j i'∧∀j',j'<j→¬Akin ms p j' i')→
   ∃q,f160.l0 L N (fun z4=>f160.p0_e0 L N some z4) n p (i:Int) ms out=some q∧NextE (Akin ms p) ms.length q:=by
  intro n
  induction n with
  |zero=>intro i out _ _ h;omega
  |succ n ih=>
   intro i out hl hi hn hout
   show ∃q,f160.s0 L N _ (f160.l0 L N _ n) p (i:Int) ms out=some q∧_
   unfold f160.s0 f160.s0'
   by_cases hlt:i<ms.length
   ·have hip:i<p.length:=by omega
    have hw:wi ((i:Int)-1)=(i:Int)-1:=wi_id (by omega) (by omega)
    simp only [lt_cast hip,cond_true,hw]
    obtain ⟨b',q1,q2,q3,e⟩:=inner (fun z11 z12 z13 z14 z15=>f160.p1_e2 L N (fun z4=>f160.p0_e0 L N some z4) (f160.l0 L N (fun z4=>f160.p0_e0 L N some z4) n) z11 z12 z13 z14 z15) i hlt out L i i ((i:Int)-1) rfl (by omega) (Nat.le_refl _) (Nat.le_refl _) (Akin.refl ms p i) (fun j' h1 h2=>by omega)
    rw [e]
    show ∃q,f160.p1_e2' L N _ _ p (i:Int) (b':Int) ms out=some q∧_
    unfold f160.p1_e2'
    have hle:decide (out.length+([(b':Int)]:List Int).length≤lim)=true:=dt (by simp only [List.length_cons,List.length_nil];omega)
    rw [hle,cond_true,wi_nat (by omega)]
    refine ih (i+1) _ (by simp [hl]) (by omega) (by omega) fun i' hi'=>?_
    by_cases h:i'<out.length
    ·rw [List.getElem_append_left h];exact hout i' h
    ·have:i'=i:=by simp at hi';omega
     subst this
     refine ⟨b',?_,q1,q2,q3⟩
     rw [List.getElem_append_right (by omega)]
     simp
   ·have hip:¬i<p.length:=by omega
    simp only [ge_cast hip,cond_false]
    exact ⟨out,rfl,by omega,hout⟩
 exact key L 0 [] rfl (by omega) (by omega) (fun _ h=>by simp at h)
theorem l4Same_ok (L N:Nat) (a b:List Int) (hL:a.length<L) (hl:a.length≤1048576):∃r,f161 L N a b=some r∧(r=true↔a=b):=by
 show ∃r,f161.b L N some a b=some r∧_
 unfold f161.b f161.b'
 by_cases he:a.length=b.length
 ·have:((a.length:Int) !=(b.length:Int))=false:=by simp [he]
  rw [this,cond_false]
  have key:∀(n i:Nat),i≤a.length→a.length-i<n→(∀j (h1:j<a.length) (h2:j<b.length),j<i→a[j]=b[j])→
    ∃r,f161.l0 L N (f161.p0_e0 L N some) (fun z3=>f161.p0_r L N some z3) n a b (i:Int)=some r∧(r=true↔a=b):=by
   intro n
   induction n with
   |zero=>intro i _ h;omega
   |succ n ih=>
    intro i hi hn hs
    show ∃r,f161.s0 L N _ _ (f161.l0 L N _ _ n) a b (i:Int)=some r∧_
    unfold f161.s0 f161.s0'
    by_cases hlt:i<a.length
    ·have hlt':i<b.length:=by omega
     simp only [le0,lt_cast hlt,lt_cast hlt',Bool.and_true,cond_true,Int.toNat_natCast,at_lt hlt,at_lt hlt']
     by_cases h1:a[i]=b[i]
     ·rw [show (a[i] !=b[i])=false by simpa using h1,cond_false,wi_nat (by omega)]
      refine ih (i+1) (by omega) (by omega) fun j h2 h3 h4=>?_
      by_cases e:j=i
      ·subst e;exact h1
      ·exact hs j h2 h3 (by omega)
     ·rw [show (a[i] !=b[i])=true by simpa using h1,cond_true]
      refine ⟨false,rfl,?_⟩
      simp only [Bool.false_eq_true,false_iff]
      intro e
      subst e
      exact h1 rfl
    ·simp only [ge_cast hlt,cond_false]
     refine ⟨true,rfl,?_⟩
     simp only [true_iff]
     exact List.ext_getElem he fun j h1 h2=>hs j h1 h2 (by omega)
  exact key L 0 (by omega) (by omega) (fun _ _ _ h=>by omega)
 ·have:((a.length:Int) !=(b.length:Int))=true:=by simp;omega
  rw [this,cond_true]
  refine ⟨false,rfl,?_⟩
  simp only [Bool.false_eq_true,false_iff]
  intro e
  exact he (by rw [e])
theorem equalI_ok (L N:Nat) (a b:List Int) (hL:a.length<L) (hl:a.length≤1048576):∃r,f146 L N a b=some r∧(r=true↔a=b):=by
 show ∃r,f146.b L N some a b=some r∧_
 unfold f146.b f146.b'
 by_cases he:a.length=b.length
 ·have:((a.length:Int) !=(b.length:Int))=false:=by simp [he]
  rw [this,cond_false]
  have key:∀(n i:Nat),i≤a.length→a.length-i<n→(∀j (h1:j<a.length) (h2:j<b.length),j<i→a[j]=b[j])→
    ∃r,f146.l0 L N (f146.p0_e0 L N some) (fun z3=>f146.p0_r L N some z3) n a b (a.length:Int) (i:Int)=some r∧(r=true↔a=b):=by
   intro n
   induction n with
   |zero=>intro i _ h;omega
   |succ n ih=>
    intro i hi hn hs
    show ∃r,f146.s0 L N _ _ (f146.l0 L N _ _ n) a b (a.length:Int) (i:Int)=some r∧_
    unfold f146.s0 f146.s0'
    by_cases hlt:i<a.length
    ·have hlt':i<b.length:=by omega
     simp only [le0,lt_cast hlt,lt_cast hlt',Bool.and_true,cond_true,Int.toNat_natCast,at_lt hlt,at_lt hlt']
     by_cases h1:a[i]=b[i]
     ·rw [show (a[i] !=b[i])=false by simpa using h1,cond_false,wi_nat (by omega)]
      refine ih (i+1) (by omega) (by omega) fun j h2 h3 h4=>?_
      by_cases e:j=i
      ·subst e;exact h1
      ·exact hs j h2 h3 (by omega)
     ·rw [show (a[i] !=b[i])=true by simpa using h1,cond_true]
      refine ⟨false,rfl,?_⟩
      simp only [Bool.false_eq_true,false_iff]
      intro e
      subst e
      exact h1 rfl
    ·simp only [ge_cast hlt,cond_false]
     refine ⟨true,rfl,?_⟩
     simp only [true_iff]
     exact List.ext_getElem he fun j h1 h2=>hs j h1 h2 (by omega)
  exact key L 0 (by omega) (by omega) (fun _ _ _ h=>by omega)
 ·have:((a.length:Int) !=(b.length:Int))=true:=by simp;omega
  rw [this,cond_true]
  refine ⟨false,rfl,?_⟩
  simp only [Bool.false_eq_true,false_iff]
  intro e
  exact he (by rw [e])
end Go.Proofs.YthidlhjjnaldhaaGreatDoor.Ev
namespace Go.Proofs.YthidlhjjnaldhaaGreatDoor.Ev
open Go
set_option linter.unusedVariables false
set_option linter.unusedSimpArgs false
theorem equalMA_ok (L N:Nat) (a b:List Move) (hL:a.length<L) (hl:a.length≤1099511627776):∃r,f185 L N a b=some r∧(r=true↔a=b):=by
 show ∃r,f185.b L N some a b=some r∧_
 unfold f185.b f185.b'
 have eqb:∀x y:Move,Move.eqb x y=true↔x=y:=fun x y=>by
  constructor
  ·intro h
   simp only [Move.eqb,Bool.and_eq_true,beq_iff_eq] at h
   rw [←mv_eta x,←mv_eta y,h.1,h.2]
  ·rintro rfl;simp [Move.eqb]
 by_cases he:a.length=b.length
 ·have:((a.length:Int) !=(b.length:Int))=false:=by simp [he]
  rw [this,cond_false]
  have key:∀(n i:Nat),i≤a.length→a.length-i<n→(∀j (h1:j<a.length) (h2:j<b.length),j<i→a[j]=b[j])→
    ∃r,f185.l0 L N (f185.p0_e0 L N some) (fun z4=>f185.p0_r L N some z4) n a b (a.length:Int) (i:Int)=some r∧(r=true↔a=b):=by
   intro n
   induction n with
   |zero=>intro i _ h;omega
   |succ n ih=>
    intro i hi hn hs
    show ∃r,f185.s0 L N _ _ (f185.l0 L N _ _ n) a b (a.length:Int) (i:Int)=some r∧_
    unfold f185.s0 f185.s0'
    by_cases hlt:i<a.length
    ·have hlt':i<b.length:=by omega
     simp only [le0,lt_cast hlt,lt_cast hlt',Bool.and_true,cond_true,Int.toNat_natCast,at_lt hlt,at_lt hlt']
     cases h0:Move.eqb a[i] b[i] with
     |true=>
      have h1:=(eqb _ _).1 h0
      rw [Bool.not_true,cond_false,wi_nat (by omega)]
      refine ih (i+1) (by omega) (by omega) fun j h2 h3 h4=>?_
      by_cases e:j=i
      ·subst e;exact h1
      ·exact hs j h2 h3 (by omega)
     |false=>
      rw [Bool.not_false,cond_true]
      refine ⟨false,rfl,?_⟩
      simp only [Bool.false_eq_true,false_iff]
      intro e
      subst e
      rw [(eqb _ _).2 rfl] at h0;cases h0
    ·simp only [ge_cast hlt,cond_false]
     refine ⟨true,rfl,?_⟩
     simp only [true_iff]
     exact List.ext_getElem he fun j h1 h2=>hs j h1 h2 (by omega)
  exact key L 0 (by omega) (by omega) (fun _ _ _ h=>by omega)
 ·have:((a.length:Int) !=(b.length:Int))=true:=by simp;omega
  rw [this,cond_true]
  refine ⟨false,rfl,?_⟩
  simp only [Bool.false_eq_true,false_iff]
  intro e
  exact he (by rw [e])
theorem refineA_ok (L N:Nat) (ms:List (List Move)) (hn60:ms.length≤60) (hL:8589934592≤L) (p:List Int) (hp:p.length=ms.length) (key:Nat→List Move) (hkl:∀i,(key i).length≤3774873660)
  (hkey:∀i,i<ms.length→f145_1 L N (i:Int) ms p=some (key i)):
  ∃q,f144_1 L N p ms p=some q∧NextE (fun j i=>p.getD j 0=p.getD i 0∧key j=key i) ms.length q:=by
 have hlim:=lim_eq
 have inner:∀{R:Type} (K:List Int→List (List Move)→List Int→Int→Int→List Int→List (List Move)→Option R) (i:Nat) (hi:i<ms.length) (out:List Int) (keys:List (List Move)),out.length=ms.length→keys.length=ms.length→(∀j,j≤i→keys.getD j []=key j)→∀(n j:Nat),j≤i→i-j<n→(∀j',j'<j→¬(p.getD j' 0=p.getD i 0∧key j'=key i))→out.getD i 0=(i:Int)→
   ∃(b:Nat) (out':List Int),b≤i∧(p.getD b 0=p.getD i 0∧key b=key i)∧(∀j',j'<b→¬(p.getD j' 0=p.getD i 0∧key j'=key i))∧out'=out.set i (b:Int)∧f144_1.l1 L N K n p ms p (i:Int) (j:Int) (ms.length:Int) (i:Int) out keys=K p ms p (ms.length:Int) (i:Int) out' keys:=by
  intro R K i hi out keys ho hk hks n
  induction n with
  |zero=>intro j _ h;omega
  |succ n ih=>
   intro j hj hn hno hoi
   show ∃(b:Nat) (out':List Int),_∧_∧_∧_∧f144_1.s1 L N _ (f144_1.l1 L N _ n) p ms p (i:Int) (j:Int) (ms.length:Int) (i:Int) out keys=_
   unfold f144_1.s1 f144_1.s1'
   by_cases hlt:j<i
   ·have hjp:j<p.length:=by omega
    have hip:i<p.length:=by omega
    have hjk:j<keys.length:=by omega
    have hik:i<keys.length:=by omega
    have hio:i<out.length:=by omega
    simp only [lt_cast hlt,le0,lt_cast hjp,lt_cast hip,lt_cast hjk,lt_cast hik,Bool.and_true,cond_true,Int.toNat_natCast,atD,hks j (by omega),hks i (by omega)]
    have stay:¬(p.getD j 0=p.getD i 0∧key j=key i)→∃(b:Nat) (out':List Int),b≤i∧(p.getD b 0=p.getD i 0∧key b=key i)∧(∀j',j'<b→¬(p.getD j' 0=p.getD i 0∧key j'=key i))∧out'=out.set i (b:Int)∧f144_1.l1 L N K n p ms p (i:Int) (wi ((j:Int)+1)) (ms.length:Int) (i:Int) out keys=K p ms p (ms.length:Int) (i:Int) out' keys:=fun hne=>by
     rw [wi_nat (by omega)]
     refine ih (j+1) (by omega) (by omega) (fun j' h=>?_) hoi
     by_cases e:j'=j
     ·subst e;exact hne
     ·exact hno j' (by omega)
    by_cases h1:p.getD j 0=p.getD i 0
    ·obtain ⟨r,e1,f1⟩:=equalMA_ok L N (key j) (key i) (by have:=hkl j;omega) (by have:=hkl j;omega)
     rw [show (p.getD j 0==p.getD i 0)=true by simpa using h1,cond_true,e1,Option.bind_some]
     unfold f144_1.j0'
     cases r with
     |true=>
      simp only [cond_true,le0,lt_cast hio,Bool.and_true,Int.toNat_natCast]
      exact ⟨j,_,by omega,⟨h1,f1.1 rfl⟩,hno,rfl,rfl⟩
     |false=>
      rw [cond_false]
      exact stay fun h=>absurd (f1.2 h.2) (by simp)
    ·rw [show (p.getD j 0==p.getD i 0)=false by simpa using h1,cond_false]
     unfold f144_1.j0'
     rw [cond_false]
     exact stay fun h=>h1 h.1
   ·have hji:j=i:=by omega
    subst hji
    simp only [ge_cast (Nat.lt_irrefl _),cond_false]
    refine ⟨j,_,Nat.le_refl _,⟨rfl,rfl⟩,hno,rfl,?_⟩
    have hio:j<out.length:=by omega
    rw [getD_lt hio] at hoi
    rw [←hoi,List.set_getElem_self]
 show ∃q,f144_1.b L N some p ms p=some q∧_
 unfold f144_1.b f144_1.b'
 have h0:decide ((ms.length:Int)≤(lim:Int))=true:=dt (by omega)
 have e0:((ms.length:Int)).toNat=ms.length:=rfl
 simp only [hp,le0,h0,Bool.and_true,cond_true,e0]
 have key0:∀(n i:Nat) (out:List Int) (keys:List (List Move)),out.length=ms.length→keys.length=ms.length→i≤ms.length→ms.length-i<n→(∀j,j<i→keys.getD j []=key j)→(∀i',i'<i→∃j:Nat,out.getD i' 0=(j:Int)∧j≤i'∧(p.getD j 0=p.getD i' 0∧key j=key i')∧∀j',j'<j→¬(p.getD j' 0=p.getD i' 0∧key j'=key i'))→
   ∃q,f144_1.l0 L N (fun z7=>f144_1.p0_e0 L N some z7) n p ms p (ms.length:Int) (i:Int) out keys=some q∧NextE (fun j i=>p.getD j 0=p.getD i 0∧key j=key i) ms.length q:=by
  intro n
  induction n with
  |zero=>intro i out keys _ _ _ h;omega
  |succ n ih=>
   intro i out keys ho hk hi hn hks hout
   show ∃q,f144_1.s0 L N _ (f144_1.l0 L N _ n) p ms p (ms.length:Int) (i:Int) out keys=some q∧_
   unfold f144_1.s0 f144_1.s0'
   by_cases hlt:i<ms.length
   ·have hio:i<out.length:=by omega
    have hik:i<keys.length:=by omega
    simp only [lt_cast hlt,cond_true,hkey i hlt,Option.bind_some,le0,lt_cast hio,lt_cast hik,Bool.and_true,Int.toNat_natCast]
    have hks':∀j,j≤i→(keys.set i (key i)).getD j []=key j:=fun j hj=>by
     by_cases e:j=i
     ·subst e;rw [getD_lt (by simpa using hik),List.getElem_set_self]
     ·rw [List.getD,List.getElem?_set_ne (by omega),←List.getD];exact hks j (by omega)
    obtain ⟨b,out',q1,q2,q3,q4,e⟩:=inner (fun z18 z19 z20 z21 z22 z23 z24=>f144_1.p1_e2 L N (fun z7=>f144_1.p0_e0 L N some z7) (f144_1.l0 L N (fun z7=>f144_1.p0_e0 L N some z7) n) z18 z19 z20 z21 z22 z23 z24) i hlt (out.set i (i:Int)) (keys.set i (key i)) (by simp [ho]) (by simp [hk]) hks' L 0 (by omega) (by omega) (fun j' h=>by omega) (by rw [getD_lt (by simpa using hio),List.getElem_set_self])
    refine (show ∃q,_=some q∧_ from ?_)
    have e':f144_1.l1 L N (fun z18 z19 z20 z21 z22 z23 z24=>f144_1.p1_e2 L N (fun z7=>f144_1.p0_e0 L N some z7) (f144_1.l0 L N (fun z7=>f144_1.p0_e0 L N some z7) n) z18 z19 z20 z21 z22 z23 z24) L p ms p (i:Int) (0:Int) (ms.length:Int) (i:Int) (out.set i (i:Int)) (keys.set i (key i))=_:=e
    rw [e']
    show ∃q,f144_1.p1_e2' L N _ _ p ms p (ms.length:Int) (i:Int) out' (keys.set i (key i))=some q∧_
    unfold f144_1.p1_e2'
    rw [wi_nat (by omega)]
    have hset:(out.set i (i:Int)).set i (b:Int)=out.set i (b:Int):=by rw [List.set_set]
    refine ih (i+1) out' _ (by rw [q4];simp [ho]) (by simp [hk]) (by omega) (by omega) (fun j hj=>hks' j (by omega)) fun i' hi'=>?_
    rw [q4,hset]
    by_cases e:i'=i
    ·subst e
     exact ⟨b,by rw [getD_lt (by simpa using hio),List.getElem_set_self],q1,q2,q3⟩
    ·obtain ⟨j,r1,r2⟩:=hout i' (by omega)
     exact ⟨j,by rw [List.getD,List.getElem?_set_ne (by omega),←List.getD];exact r1,r2⟩
   ·simp only [ge_cast hlt,cond_false]
    have hi':i=ms.length:=by omega
    subst hi'
    refine ⟨out,rfl,ho,fun i hi=>?_⟩
    obtain ⟨j,r1,r2⟩:=hout i (by omega)
    rw [getD_lt hi] at r1
    exact ⟨j,r1,r2⟩
 exact key0 L 0 (List.replicate ms.length (0:Int)) (List.replicate ms.length ([]:List Move)) List.length_replicate List.length_replicate (by omega) (by omega) (fun j h=>by omega) (fun i' h=>by omega)
end Go.Proofs.YthidlhjjnaldhaaGreatDoor.Ev
namespace Go.Proofs.YthidlhjjnaldhaaGreatDoor.Ev
open Go
set_option linter.unusedVariables false
set_option linter.unusedSimpArgs false
def sigRow (ms:List (List Move)) (p:List Int) (i:Nat):List Move:=(ms.getD i []).map fun m=>Move.mk m.act (p.getD m.to.toNat 0)
def alikeKey (ms:List (List Move)) (p:List Int) (i:Nat):List Move:=tidyM (sigRow ms p i)
theorem sigRow_len {ms:List (List Move)} (hm:Leads ms) (p:List Int) (i:Nat):(sigRow ms p i).length≤1048576:=by
 unfold sigRow
 rw [List.length_map]
 by_cases h:i<ms.length
 ·rw [getD_lt h];exact (hm.2 i h).1
 ·rw [List.getD,List.getElem?_eq_none (by omega)];simp
theorem sigRow_mem (ms:List (List Move)) (p:List Int) (i:Nat) (m:Move):m∈sigRow ms p i↔Sig ms p i m:=by
 unfold sigRow Sig
 rw [List.mem_map]
 by_cases h:i<ms.length
 ·rw [getD_lt h]
  constructor
  ·rintro ⟨x,hx,rfl⟩
   obtain ⟨k,hk,rfl⟩:=List.mem_iff_getElem.1 hx
   exact ⟨h,k,hk,rfl,rfl⟩
  ·rintro ⟨_,k,hk,h1,h2⟩
   exact ⟨_,List.getElem_mem hk,by rw [←mv_eta m,h1,h2]⟩
 ·rw [List.getD,List.getElem?_eq_none (by omega)]
  constructor
  ·rintro ⟨x,hx,-⟩;simp at hx
  ·rintro ⟨h',-⟩;exact absurd h' h
theorem alikeKey_len {ms:List (List Move)} (hm:Leads ms) (p:List Int) (i:Nat):(alikeKey ms p i).length≤3774873660:=by
 have h1:=tidyM_le (sigRow ms p i)
 have h2:=sigRow_len hm p i
 unfold alikeKey
 omega
theorem alikeKey_iff (ms:List (List Move)) (p:List Int) (j i:Nat):alikeKey ms p j=alikeKey ms p i↔∀m,Sig ms p i m↔Sig ms p j m:=by
 have hmem:∀k m,m∈alikeKey ms p k↔Sig ms p k m:=fun k m=>(tidyM_mem _ m).trans (sigRow_mem ms p k m)
 constructor
 ·intro h m
  rw [←hmem i m,←hmem j m,h]
 ·intro h
  exact risesM_ext (tidyM_rises _) (tidyM_rises _) fun m=>(hmem j m).trans ((h m).symm.trans (hmem i m).symm)
theorem keyA_ok (L N:Nat) (ms:List (List Move)) (hm:Leads ms) (hL:8589934592≤L) (p:List Int) (hp:p.length=ms.length) (i:Nat) (hi:i<ms.length):f145_1 L N (i:Int) ms p=some (alikeKey ms p i):=by
 have hlim:=lim_eq
 have hrow:=hm.2 i hi
 have h1:f112_1 L N p (i:Int) ms=some (alikeKey ms p i):=by
  show f112_1.b L N some p (i:Int) ms=_
  unfold f112_1.b f112_1.b'
  simp only [le0,lt_cast hi,Bool.and_true,cond_true,Int.toNat_natCast,at_lt hi]
  have key:∀(n k:Nat) (out:List Move),k≤(ms[i]).length→(ms[i]).length-k<n→out.length=k→
    f112_1.l0 L N (fun z5=>f112_1.p0_e0 L N some z5) n p ms[i] ((ms[i]).length:Int) (k:Int) out=some (tidyM (out++((ms[i]).drop k).map fun m=>Move.mk m.act (p.getD m.to.toNat 0))):=by
   intro n
   induction n with
   |zero=>intro k out _ h;omega
   |succ n ih=>
    intro k out hk hn ho
    show f112_1.s0 L N _ (f112_1.l0 L N _ n) p ms[i] ((ms[i]).length:Int) (k:Int) out=_
    unfold f112_1.s0 f112_1.s0'
    by_cases hlt:k<(ms[i]).length
    ·obtain ⟨t,ht,htl⟩:=hm.nat hi hlt
     have htp:t<p.length:=by omega
     have hle:decide (out.length+([(Move.mk ((ms[i])[k]).act (p.getD t 0))]:(List Move)).length≤lim)=true:=dt (by simp only [List.length_cons,List.length_nil];omega)
     simp only [lt_cast hlt,le0,Bool.and_true,cond_true,Int.toNat_natCast,at_lt hlt,ht,lt_cast htp,atD,hle]
     rw [wi_nat (by omega),ih (k+1) _ (by omega) (by omega) (by simp [ho]),List.drop_eq_getElem_cons hlt,List.map_cons,ht,Int.toNat_natCast,List.append_assoc]
     rfl
    ·simp only [ge_cast hlt,cond_false]
     rw [List.drop_eq_nil_of_le (by omega),List.map_nil,List.append_nil]
     show f112_1.p0_e0' L N some out=_
     unfold f112_1.p0_e0'
     rw [fsortM_some (by omega),Option.bind_some]
  have h:=key L 0 [] (by omega) (by omega) rfl
  rw [List.drop_zero,List.nil_append] at h
  have hs:alikeKey ms p i=tidyM ((ms[i]).map fun m=>Move.mk m.act (p.getD m.to.toNat 0)):=by
   unfold alikeKey sigRow;rw [getD_lt hi]
  rw [hs]
  exact h
 show f145_1.b' L N some (i:Int) ms p=_
 unfold f145_1.b'
 rw [h1,Option.bind_some]
theorem refineAkin (L N:Nat) (ms:List (List Move)) (hm:Leads ms) (hL:8589934592≤L) (p:List Int) (hp:p.length=ms.length):
  ∃q,f144_1 L N p ms p=some q∧NextE (Akin ms p) ms.length q:=by
 obtain ⟨q,h1,h2⟩:=refineA_ok L N ms hm.1 hL p hp (alikeKey ms p) (alikeKey_len hm p) (fun i hi=>keyA_ok L N ms hm hL p hp i hi)
 exact ⟨q,h1,h2.congr fun i j _ _=>and_congr Iff.rfl (alikeKey_iff ms p j i)⟩
theorem last_cast {α:Type} (pre:List α) (p d:α) (h:pre.length≤1048576):wi (((pre++[p]).length:Int)-1)=(pre.length:Int)∧pre.length<(pre++[p]).length∧listAt (pre++[p]) d pre.length=p:=by
 refine ⟨?_,by simp,?_⟩
 ·rw [List.length_append,List.length_cons,List.length_nil,wi_id (by omega) (by omega)];omega
 ·rw [at_lt (by simp)];simp
end Go.Proofs.YthidlhjjnaldhaaGreatDoor.Ev
namespace Go.Proofs.YthidlhjjnaldhaaGreatDoor.Ev
open Go
set_option linter.unusedVariables false
set_option linter.unusedSimpArgs false
inductive Chain (E:List Int→Nat→Nat→Prop) (n:Nat):List (List Int)→List Int→Prop
 |zero:Chain E n [] (List.replicate n 0)
 |snoc (pre:List (List Int)) (p q:List Int) (h:Chain E n pre p) (hq:NextE (E p) n q):Chain E n (pre++[p]) q
structure EqE (E:List Int→Nat→Nat→Prop):Prop where
 refl:∀p i,E p i i
 symm:∀p i j,E p i j→E p j i
 trans:∀p i j k,E p i j→E p j k→E p i k
 fine:∀p i j,E p i j→p.getD i 0=p.getD j 0
theorem NextE.same {E:Nat→Nat→Prop} {n:Nat} {q:List Int} (h:NextE E n q) (sy:∀i j,E i j→E j i) (tr:∀i j k,E i j→E j k→E i k) {i i':Nat} (hi:i<n) (hi':i'<n):q.getD i 0=q.getD i' 0↔E i i':=by
 have hl:=h.1
 rw [getD_lt (show i<q.length by omega),getD_lt (show i'<q.length by omega)]
 obtain ⟨j,a1,a2,a3,a4⟩:=h.2 i (by omega)
 obtain ⟨j',b1,b2,b3,b4⟩:=h.2 i' (by omega)
 rw [a1,b1]
 constructor
 ·intro e
  obtain rfl:j=j':=by omega
  exact tr _ _ _ (sy _ _ a3) b3
 ·intro e
  have h1:¬j<j':=fun hlt=>b4 j hlt (tr _ _ _ a3 e)
  have h2:¬j'<j:=fun hlt=>a4 j' hlt (tr _ _ _ b3 (sy _ _ e))
  have:j=j':=by omega
  rw [this]
theorem Chain.len {E:List Int→Nat→Nat→Prop} {n:Nat} {pre:List (List Int)} {p:List Int} (h:Chain E n pre p):p.length=n:=by
 cases h with
 |zero=>simp
 |snoc pre p q h hq=>exact hq.1
theorem Chain.low {E:List Int→Nat→Nat→Prop} {n:Nat} {pre:List (List Int)} {p:List Int} (h:Chain E n pre p):Low p:=by
 cases h with
 |zero=>exact low_zero n
 |snoc pre p q h hq=>exact hq.low
theorem Chain.first {E:List Int→Nat→Nat→Prop} {n:Nat} {pre:List (List Int)} {p:List Int} (h:Chain E n pre p):(pre++[p]).getD 0 []=List.replicate n 0:=by
 induction h with
 |zero=>rfl
 |snoc pre p q h hq ih=>
  cases pre with
  |nil=>exact ih
  |cons a t=>exact ih
theorem Chain.keeps {E:List Int→Nat→Nat→Prop} (hE:EqE E) {n:Nat} {pre:List (List Int)} {p:List Int} (h:Chain E n pre p) (R:Nat→Nat→Prop)
  (hR:∀p,p.length=n→(∀i j,i<n→j<n→R i j→p.getD i 0=p.getD j 0)→∀i j,i<n→j<n→R i j→E p i j):
  ∀i j,i<n→j<n→R i j→p.getD i 0=p.getD j 0:=by
 induction h with
 |zero=>
  intro i j hi hj _
  rw [getD_lt (by simpa using hi),getD_lt (by simpa using hj),List.getElem_replicate,List.getElem_replicate]
 |snoc pre p q h hq ih=>
  intro i j hi hj hr
  exact (hq.same (hE.symm p) (hE.trans p) hi hj).2 (hR p h.len ih i j hi hj hr)
def Fix (E:List Int→Nat→Nat→Prop) (n:Nat) (q:List Int):Prop:=q.length=n∧NextE (E q) n q
theorem Fix.same {E:List Int→Nat→Nat→Prop} (hE:EqE E) {n:Nat} {q:List Int} (h:Fix E n q) {i j:Nat} (hi:i<n) (hj:j<n):q.getD i 0=q.getD j 0↔E q i j:=h.2.same (hE.symm q) (hE.trans q) hi hj
theorem akinEq (ms:List (List Move)):EqE (Akin ms) where
 refl p i:=Akin.refl ms p i
 symm p i j h:=⟨h.1.symm,fun m=>(h.2 m).symm⟩
 trans p i j k h1 h2:=⟨h1.1.trans h2.1,fun m=>(h2.2 m).trans (h1.2 m)⟩
 fine p i j h:=h.1
theorem roundsI (L N:Nat) (ms:List (List Move)) (hm:Leads ms) (hL:8589934592≤L):∀(n:Nat) (pre:List (List Int)) (p:List Int),p.length=ms.length→Low p→pre.length≤wgt p→3600-wgt p<n→Chain (Akin ms) ms.length pre p→
  ∃pre' q,f111_1.l0 L N (fun z4=>f111_1.p0_r L N some z4) n ms (pre++[p])=some (pre'++[q])∧pre'.length≤3600∧Chain (Akin ms) ms.length pre' q∧Fix (Akin ms) ms.length q:=by
 have hlim:=lim_eq
 have hn60:=hm.1
 have hw:∀p:List Int,p.length=ms.length→Low p→wgt p≤3600:=fun p hp hl=>by
  have h1:=wgt_le (p:=p) (B:=60) fun x hx=>by
   obtain ⟨i,hi,rfl⟩:=List.mem_iff_getElem.1 hx
   have:=hl i hi;omega
  omega
 intro n
 induction n with
 |zero=>intro pre p _ _ _ h;omega
 |succ n ih=>
  intro pre p hp hl hpre hn hch
  have hwp:=hw p hp hl
  obtain ⟨e1,e2,e3⟩:=last_cast pre p [] (by omega)
  obtain ⟨q1,b1,a2⟩:=refineAkin L N ms hm hL p hp
  have hq:q1.length=ms.length:=a2.1
  obtain ⟨r1,d1,c2⟩:=equalI_ok L N q1 p (by omega) (by omega)
  have hle:decide ((pre++[p]).length+([q1]:List (List Int)).length≤lim)=true:=dt (by simp only [List.length_append,List.length_cons,List.length_nil];omega)
  have s2:f111_1.l0 L N (fun z4=>f111_1.p0_r L N some z4) (n+1) ms (pre++[p])=bif r1 then some (pre++[p]) else f111_1.l0 L N (fun z4=>f111_1.p0_r L N some z4) n ms (pre++[p]++[q1]):=by
   show f111_1.s0 L N _ (f111_1.l0 L N _ n) ms (pre++[p])=_
   unfold f111_1.s0 f111_1.s0'
   simp only [e1,le0,lt_cast e2,Bool.and_true,cond_true,Int.toNat_natCast,e3,b1,d1,Option.bind_some,hle]
   rfl
  rw [s2]
  cases r1 with
  |true=>
   have heq:q1=p:=c2.1 rfl
   subst heq
   exact ⟨pre,q1,rfl,by omega,hch,hp,a2⟩
  |false=>
   have hne:p≠q1:=fun e=>absurd (c2.2 e.symm) (by simp)
   have hlt:=wgt_lt (by omega) (fun i h1 h2=>⟨(hl i h1).1,a2.ge hp hl (fun j i h=>h.1) i h1 h2⟩) hne
   have hwq:=hw q1 hq a2.low
   exact ih (pre++[p]) q1 hq a2.low (by simp only [List.length_append,List.length_cons,List.length_nil];omega) (by omega) (.snoc _ _ _ hch a2)
theorem chainI (L N:Nat) (ms:List (List Move)) (hm:Leads ms) (hL:8589934592≤L):∃pre q,f69 L N ⟨ms⟩=some (pre++[q])∧pre.length≤3600∧Chain (Akin ms) ms.length pre q∧Fix (Akin ms) ms.length q:=by
 have hlim:=lim_eq
 have hn60:=hm.1
 obtain ⟨pre,q,h2,h4,h5,h6⟩:=roundsI L N ms hm hL L [] (List.replicate ms.length 0) (by simp) (low_zero _) (by simp) (by omega) .zero
 have h0:decide ((ms.length:Int)≤(lim:Int))=true:=dt (by omega)
 have e0:((ms.length:Int)).toNat=ms.length:=rfl
 have r2:f69 L N ⟨ms⟩=some (pre++[q]):=by
  have hrr:f111_1 L N (ms.length:Int) ms=some (pre++[q]):=by
   show f111_1.b L N some (ms.length:Int) ms=_
   unfold f111_1.b f111_1.b'
   simp only [le0,h0,Bool.and_true,cond_true,e0]
   exact h2
  show f69.b' L N some ⟨ms⟩=_
  unfold f69.b'
  simp only [hrr,Option.bind_some]
 exact ⟨pre,q,r2,h4,h5,h6⟩
theorem classesI (L N:Nat) (ms:List (List Move)) {pre:List (List Int)} {q:List Int} (hr:f69 L N ⟨ms⟩=some (pre++[q])) (hp:pre.length≤3600) (hq:q.length≤60):f37 L N ⟨ms⟩=some q:=by
 have hlim:=lim_eq
 obtain ⟨e1,e2,e3⟩:=last_cast pre q [] (by omega)
 show f37.b' L N some ⟨ms⟩=_
 unfold f37.b'
 have hfc:fclone q=some ():=by unfold fclone;rw [dt (by omega)];rfl
 simp only [hr,Option.bind_some,e1,le0,lt_cast e2,Bool.and_true,cond_true,Int.toNat_natCast,e3,hfc]
theorem roundsC (L N:Nat) (ms:List (List Move)) (hm:Leads ms) (hL:8589934592≤L):∀(n:Nat) (pre:List (List Int)) (p:List Int),p.length=ms.length→Low p→pre.length≤wgt p→3600-wgt p<n→Chain (Akin ms) ms.length pre p→
  ∃pre' q,f120.l0 L N (fun z4=>f120.p0_r L N some z4) n ms (pre++[p])=some (pre'++[q])∧f111_1.l0 L N (fun z4=>f111_1.p0_r L N some z4) n ms (pre++[p])=some (pre'++[q])∧pre'.length≤3600∧Chain (Akin ms) ms.length pre' q∧Fix (Akin ms) ms.length q:=by
 have hlim:=lim_eq
 have hn60:=hm.1
 have hw:∀p:List Int,p.length=ms.length→Low p→wgt p≤3600:=fun p hp hl=>by
  have h1:=wgt_le (p:=p) (B:=60) fun x hx=>by
   obtain ⟨i,hi,rfl⟩:=List.mem_iff_getElem.1 hx
   have:=hl i hi;omega
  omega
 intro n
 induction n with
 |zero=>intro pre p _ _ _ h;omega
 |succ n ih=>
  intro pre p hp hl hpre hn hch
  have hwp:=hw p hp hl
  obtain ⟨e1,e2,e3⟩:=last_cast pre p [] (by omega)
  obtain ⟨q1,a1,a2⟩:=l4Next_ok L N ms hm (by omega) p hp
  obtain ⟨q2,b1,b2⟩:=refineAkin L N ms hm hL p hp
  obtain rfl:=a2.uniq b2
  have hq:q1.length=ms.length:=a2.1
  obtain ⟨r1,c1,c2⟩:=l4Same_ok L N q1 p (by omega) (by omega)
  obtain ⟨r2,d1,d2⟩:=equalI_ok L N q1 p (by omega) (by omega)
  have hr:r1=r2:=by rw [Bool.eq_iff_iff,c2,d2]
  subst hr
  have hle:decide ((pre++[p]).length+([q1]:List (List Int)).length≤lim)=true:=dt (by simp only [List.length_append,List.length_cons,List.length_nil];omega)
  have s1:f120.l0 L N (fun z4=>f120.p0_r L N some z4) (n+1) ms (pre++[p])=bif r1 then some (pre++[p]) else f120.l0 L N (fun z4=>f120.p0_r L N some z4) n ms (pre++[p]++[q1]):=by
   show f120.s0 L N _ (f120.l0 L N _ n) ms (pre++[p])=_
   unfold f120.s0 f120.s0'
   simp only [e1,le0,lt_cast e2,Bool.and_true,cond_true,Int.toNat_natCast,e3,a1,c1,Option.bind_some,hle]
   rfl
  have s2:f111_1.l0 L N (fun z4=>f111_1.p0_r L N some z4) (n+1) ms (pre++[p])=bif r1 then some (pre++[p]) else f111_1.l0 L N (fun z4=>f111_1.p0_r L N some z4) n ms (pre++[p]++[q1]):=by
   show f111_1.s0 L N _ (f111_1.l0 L N _ n) ms (pre++[p])=_
   unfold f111_1.s0 f111_1.s0'
   simp only [e1,le0,lt_cast e2,Bool.and_true,cond_true,Int.toNat_natCast,e3,b1,d1,Option.bind_some,hle]
   rfl
  rw [s1,s2]
  cases r1 with
  |true=>
   have heq:q1=p:=c2.1 rfl
   subst heq
   exact ⟨pre,q1,rfl,rfl,by omega,hch,hp,a2⟩
  |false=>
   have hne:p≠q1:=fun e=>absurd (c2.2 e.symm) (by simp)
   have hlt:=wgt_lt (by omega) (fun i h1 h2=>⟨(hl i h1).1,a2.ge hp hl (fun j i h=>h.1) i h1 h2⟩) hne
   have hwq:=hw q1 hq a2.low
   exact ih (pre++[p]) q1 hq a2.low (by simp only [List.length_append,List.length_cons,List.length_nil];omega) (by omega) (.snoc _ _ _ hch a2)
theorem chainS (L N:Nat) (ms:List (List Move)) (hm:Leads ms) (hL:8589934592≤L) {pre:List (List Int)} {q:List Int} (hr:f69 L N ⟨ms⟩=some (pre++[q])):f120 L N ⟨ms⟩=some (pre++[q]):=by
 have hlim:=lim_eq
 have hn60:=hm.1
 obtain ⟨pre',q',h1,h2,h4,h5,h6⟩:=roundsC L N ms hm hL L [] (List.replicate ms.length 0) (by simp) (low_zero _) (by simp) (by omega) .zero
 have h0:decide ((ms.length:Int)≤(lim:Int))=true:=dt (by omega)
 have e0:((ms.length:Int)).toNat=ms.length:=rfl
 have r2:f69 L N ⟨ms⟩=some (pre'++[q']):=by
  have hrr:f111_1 L N (ms.length:Int) ms=some (pre'++[q']):=by
   show f111_1.b L N some (ms.length:Int) ms=_
   unfold f111_1.b f111_1.b'
   simp only [le0,h0,Bool.and_true,cond_true,e0]
   exact h2
  show f69.b' L N some ⟨ms⟩=_
  unfold f69.b'
  simp only [hrr,Option.bind_some]
 rw [r2] at hr
 rw [←Option.some.inj hr]
 show f120.b L N some ⟨ms⟩=_
 unfold f120.b f120.b'
 simp only [le0,h0,Bool.and_true,cond_true,e0]
 exact h1
theorem classesS (L N:Nat) (ms:List (List Move)) {pre:List (List Int)} {q:List Int} (hr:f120 L N ⟨ms⟩=some (pre++[q])) (hp:pre.length≤3600):f76 L N ⟨ms⟩=some q:=by
 have hlim:=lim_eq
 obtain ⟨e1,e2,e3⟩:=last_cast pre q [] (by omega)
 show f76.b' L N some ⟨ms⟩=_
 unfold f76.b'
 simp only [hr,Option.bind_some,e1,le0,lt_cast e2,Bool.and_true,cond_true,Int.toNat_natCast,e3]
end Go.Proofs.YthidlhjjnaldhaaGreatDoor.Ev
namespace Go.Proofs.YthidlhjjnaldhaaGreatDoor.Ev
open Go
set_option linter.unusedVariables false
set_option linter.unusedSimpArgs false
def WeakOf (ms rows:List (List Move)):Prop:=rows.length=ms.length∧∀(j:Nat) (hj:j<rows.length),∀m,m∈rows[j]↔WkS ms j m
structure WeakFine (g:Graph) (rows:List (List Move)):Prop where
 weak:WeakOf g.moves rows
 lead:Leads rows
 size:rows.length+gsize rows≤1048576
 len:∀r∈rows,r.length≤540
 ok:graphOk ⟨rows⟩=true
theorem weak_fine {g:Graph} (hg:g.moves.length+gsize g.moves≤1048576) (hok:graphOk g=true) {rows:List (List Move)} (hw:WeakOf g.moves rows) (hr:∀(j:Nat) (hj:j<rows.length),RisesM rows[j]):WeakFine g rows:=by
 have hm:=leads_of hok hg
 have hn:=hm.1
 obtain ⟨hn1,-,hmv⟩:=graphOk_mv hok
 have hl:=hw.1
 have hto:∀(j:Nat) (hj:j<rows.length),∀m∈rows[j],-4≤m.act∧m.act≤4∧0≤m.to∧m.to<(g.moves.length:Int):=fun j hj m hmm=>by
  obtain ⟨mid,hs,q⟩:=(hw.2 j hj m).1 hmm
  have hml:mid<g.moves.length:=hs.lt hm (fun t ht=>by omega)
  rcases q with ⟨ha,ht⟩|⟨_,k,hk,t,u,ha,hact,ht,hu,hto⟩
  ·omega
  ·have hb:=hmv mid hml k hk
   have hul:u<g.moves.length:=hu.lt hm (fun x hx=>by omega)
   omega
 have hrow:∀r∈rows,r.length≤540:=fun r hr'=>by
  obtain ⟨j,hj,rfl⟩:=List.mem_iff_getElem.1 hr'
  exact risesM_len (hr j hj) fun m hmm=>by have:=hto j hj m hmm;omega
 have hgs:=gsize_le hrow
 refine ⟨hw,⟨by omega,fun i hi=>⟨?_,fun k hk=>?_⟩⟩,by omega,hrow,graphOk_mk (by omega) (by omega) fun i hi=>⟨hr i hi,fun m hmm=>?_⟩⟩
 ·have:=hrow _ (List.getElem_mem hi);omega
 ·have:=hto i hi _ (List.getElem_mem hk);omega
 ·have:=hto i hi m hmm
  unfold mvOk
  rw [dt (by omega),dt (by omega)];rfl
end Go.Proofs.YthidlhjjnaldhaaGreatDoor.Ev
namespace Go.Proofs.YthidlhjjnaldhaaGreatDoor.Ev
open Go
set_option linter.unusedVariables false
set_option linter.unusedSimpArgs false
theorem Fix.zero {E:List Int→Nat→Nat→Prop} {n:Nat} {q:List Int} (h:Fix E n q) (hn:0<n):q.getD 0 0=0:=by
 have hl:=h.1
 obtain ⟨j,a1,a2,-,-⟩:=h.2.2 0 (by omega)
 rw [getD_lt (by omega),a1];omega
theorem fine_both {a b:List (List Move)} (ha:graphOk ⟨a⟩=true∧∀r∈a,r.length≤540) (hb:graphOk ⟨b⟩=true∧∀r∈b,r.length≤540) (h60:a.length+b.length≤60):graphOk ⟨bothL a b⟩=true∧(bothL a b).length+gsize (bothL a b)≤1048576:=by
 refine ⟨bothL_graph ha.1 hb.1 h60,?_⟩
 have hr:∀r∈bothL a b,r.length≤540:=fun r hr=>by
  unfold bothL at hr
  rcases List.mem_append.1 hr with h|h
  ·exact ha.2 r h
  ·obtain ⟨x,hx,rfl⟩:=List.mem_map.1 h
   unfold shiftR
   rw [List.length_map];exact hb.2 x hx
 have hgs:=gsize_le hr
 have hl:=bothL_len a b
 omega
theorem weak_both (L N:Nat) (ms:List (List Move)) (hok:graphOk ⟨ms⟩=true) (hg:ms.length+gsize ms≤1048576) (hL:8589934592≤L):
  ∃rows pre q,f36 L N ⟨ms⟩=some (wkOut rows)∧f37 L N ⟨rows⟩=some q∧f44 L N ⟨ms⟩=some q∧WeakFine ⟨ms⟩ rows∧Chain (Akin rows) rows.length pre q∧Fix (Akin rows) rows.length q:=by
 have hm:Leads ms:=leads_of hok hg
 have hn:=hm.1
 obtain ⟨rows,v1,v2,v3,v4⟩:=weak_eq L N ms hm hL
 have w2:WeakFine ⟨ms⟩ rows:=weak_fine (g:=⟨ms⟩) hg hok ⟨v3,fun j hj m=>(v4 j hj).2 m⟩ fun j hj=>(v4 j hj).1
 obtain ⟨pre,q,c3,c5,c6,c7⟩:=chainI L N rows w2.lead hL
 have hql:=c7.1
 have c4:=classesI L N rows c3 c5 (by omega)
 have c8:=classesS L N rows (chainS L N rows w2.lead hL c3) c5
 refine ⟨rows,pre,q,v1,c4,?_,w2,c6,c7⟩
 show f44.b' L N some ⟨ms⟩=_
 unfold f44.b'
 have h2:f75 L N (Graph.mk (Graph.mk ms).moves)=some true:=(gok2_ok L N ⟨ms⟩ (by omega) hg).trans (by rw [hok])
 have v2':f45 L N (Graph.mk (Graph.mk ms).moves) false=some ⟨rows⟩:=v2
 rw [h2,Option.bind_some,Bool.not_true,cond_false,v2',Option.bind_some,c8,Option.bind_some]
end Go.Proofs.YthidlhjjnaldhaaGreatDoor.Ev
namespace Go.Proofs.YthidlhjjnaldhaaGreatDoor.Ev
open Go
set_option linter.unusedVariables false
set_option linter.unusedSimpArgs false
def WkO (ms:List (List Move)) (s:Nat) (a:Int) (u:Nat):Prop:=∃mid t,Slip ms (fun x=>x=s) mid∧Mv ms mid a t∧Slip ms (fun x=>x=t) u
theorem wkS_iff {ms:List (List Move)} {s u:Nat} {a:Int}:WkS ms s ⟨a,(u:Int)⟩↔(a=0∧Slip ms (fun x=>x=s) u)∨(a≠0∧WkO ms s a u):=by
 constructor
 ·rintro ⟨mid,h1,⟨ha,ht⟩|⟨hm,k,hk,t,u',ha,hact,ht,hu,hto⟩⟩
  ·have ht':(u:Int)=(mid:Int):=ht
   obtain rfl:u=mid:=by omega
   exact .inl ⟨ha,h1⟩
  ·have hto':(u:Int)=(u':Int):=hto
   obtain rfl:u=u':=by omega
   have hact':a=(ms[mid])[k].act:=hact
   exact .inr ⟨by rw [hact'];exact ha,mid,t,h1,⟨hm,k,hk,hact'.symm,ht⟩,hu⟩
 ·rintro (⟨ha,h⟩|⟨ha,mid,t,h1,⟨hm,k,hk,hact,ht⟩,hu⟩)
  ·exact ⟨u,h,.inl ⟨ha,rfl⟩⟩
  ·exact ⟨mid,h1,.inr ⟨hm,k,hk,t,u,by rw [hact];exact ha,hact.symm,ht,hu,rfl⟩⟩
theorem slip_one {ms:List (List Move)} {s t u:Nat} (h:Slip ms (fun x=>x=s) t) (h2:Slip ms (fun x=>x=t) u):Slip ms (fun x=>x=s) u:=h2.trans fun x hx=>by subst hx;exact h
theorem slip_lt1 {ms:List (List Move)} (hm:Leads ms) {s t:Nat} (hs:s<ms.length) (h:Slip ms (fun x=>x=s) t):t<ms.length:=h.lt hm (fun x hx=>by omega)
theorem slip_head {ms:List (List Move)} {s u:Nat} (h:Slip ms (fun x=>x=s) u):u=s∨∃t,Mv ms s 0 t∧Slip ms (fun x=>x=t) u:=by
 refine slip_ind (P:=fun u=>u=s∨∃t,Mv ms s 0 t∧Slip ms (fun x=>x=t) u) (fun t hx=>.inl hx) (fun v t hv hmv=>.inr ?_) h
 rcases hv with rfl|⟨t1,h1,h2⟩
 ·exact ⟨t,hmv,.base t rfl⟩
 ·exact ⟨t1,h1,slip_mv h2 hmv⟩
theorem weak_sim {ms rows:List (List Move)} (hm:Leads ms) (hw:WeakOf ms rows) {w:List Int} (hq:Fix (Akin rows) rows.length w) {i j u:Nat} {a:Int} (hi:i<ms.length) (hj:j<ms.length) (e:w.getD i 0=w.getD j 0) (h:WkS ms i ⟨a,(u:Int)⟩):
  ∃u',u'<ms.length∧WkS ms j ⟨a,(u':Int)⟩∧w.getD u 0=w.getD u' 0:=by
 have hl:=hw.1
 obtain ⟨k,hk,ek⟩:=List.mem_iff_getElem.1 ((hw.2 i (by omega) _).2 h)
 obtain ⟨hj',k',hk',a1,a2⟩:=(((hq.same (akinEq rows) (by omega) (by omega)).1 e).2 ⟨a,w.getD u 0⟩).2 ⟨by omega,k,hk,by rw [ek],by rw [ek];rfl⟩
 have hmem:=(hw.2 j hj' _).1 (List.getElem_mem hk')
 have hto:∃u':Nat,(rows[j])[k'].to=(u':Int)∧u'<ms.length:=by
  obtain ⟨mid,h1,⟨_,ht⟩|⟨_,_,_,_,u',_,_,_,hu,hto⟩⟩:=hmem
  ·exact ⟨mid,ht,slip_lt1 hm hj h1⟩
  ·rename_i hm1 k1 hk1 t1 h2 h3 h4
   have:=(hm.2 mid hm1).2 k1 hk1
   exact ⟨u',hto,slip_lt1 hm (by omega) hu⟩
 obtain ⟨u',h1,h2⟩:=hto
 have a1':a=(rows[j])[k'].act:=a1
 refine ⟨u',h2,?_,by rw [h1,Int.toNat_natCast] at a2;exact a2⟩
 have e2:(⟨a,(u':Int)⟩:Move)=(rows[j])[k']:=by rw [←mv_eta (rows[j])[k'],←a1',h1]
 rw [e2];exact hmem
def RootB (ms:List (List Move)) (w:List Int) (s t:Nat):Prop:=∀a s',Mv ms s a s'→∃t',WkO ms t a t'∧w.getD s' 0=w.getD t' 0
end Go.Proofs.YthidlhjjnaldhaaGreatDoor.Ev
namespace Go.Proofs.YthidlhjjnaldhaaGreatDoor.Ev
open Go
set_option linter.unusedVariables false
set_option linter.unusedSimpArgs false
theorem wsT_mem {ms:List (List Move)} (hm:Leads ms) {sl:List (List Bool)} (hsn:sl.length=ms.length) (hs:∀(j:Nat) (hj:j<sl.length),(sl[j]).length=ms.length∧∀t:Nat,Tr sl[j] t↔Slip ms (fun s=>s=j) t)
  (s:Nat) (hsl:s<sl.length) (m:Move):m∈(List.range ms.length).flatMap (wsF true sl ms s)↔∃u:Nat,m.to=(u:Int)∧WkO ms s m.act u:=by
 obtain ⟨h1,h3⟩:=hs s hsl
 rw [List.mem_flatMap]
 constructor
 ·rintro ⟨mid,hv,hmv⟩
  have hml:=List.mem_range.1 hv
  unfold wsF at hmv
  rw [getD_lt hsl,getD_lt hml] at hmv
  split at hmv
  ·rename_i hT
   have hslip:=(h3 mid).1 hT
   have hmv:m∈(ms[mid]).flatMap (wsG sl ms.length):=hmv
   obtain ⟨q,hq,hmq⟩:=List.mem_flatMap.1 hmv
   obtain ⟨k,hk,rfl⟩:=List.mem_iff_getElem.1 hq
   obtain ⟨t,ht,htl⟩:=hm.nat hml hk
   have htl':t<sl.length:=by omega
   unfold wsG at hmq
   rw [ht,Int.toNat_natCast,getD_lt htl'] at hmq
   obtain ⟨u,hu,rfl⟩:=List.mem_map.1 hmq
   exact ⟨u,rfl,mid,t,hslip,⟨hml,k,hk,rfl,ht⟩,((hs t htl').2 u).1 (List.mem_filter.1 hu).2⟩
  ·cases hmv
 ·rintro ⟨u,hto,mid,t,hsm,⟨_,k,hk,hact,ht⟩,hu⟩
  have hml:mid<ms.length:=hsm.lt hm (fun t ht=>by omega)
  refine ⟨mid,List.mem_range.2 hml,?_⟩
  unfold wsF
  have hT:(sl[s]).getD mid false=true:=(h3 mid).2 hsm
  rw [getD_lt hsl,getD_lt hml,if_pos hT]
  obtain ⟨t',ht',htl⟩:=hm.nat hml hk
  rw [ht] at ht'
  obtain rfl:t=t':=by omega
  have htl':t<sl.length:=by omega
  refine List.mem_append.2 (.inr (List.mem_flatMap.2 ⟨_,List.getElem_mem hk,?_⟩))
  unfold wsG
  rw [ht,Int.toNat_natCast,getD_lt htl']
  have hul:u<ms.length:=hu.lt hm (fun x hx=>by omega)
  refine List.mem_map.2 ⟨u,List.mem_filter.2 ⟨List.mem_range.2 hul,((hs t htl').2 u).2 hu⟩,?_⟩
  rw [←mv_eta m,←hact,hto]
theorem weakT (L N:Nat) (ms:List (List Move)) (hok:graphOk ⟨ms⟩=true) (hg:ms.length+gsize ms≤1048576) (hL:8589934592≤L):
  ∃rt,f45 L N ⟨ms⟩ true=some ⟨rt⟩∧rt.length=ms.length∧Leads rt∧∀(j:Nat) (hj:j<rt.length) (m:Move),m∈rt[j]↔∃u:Nat,m.to=(u:Int)∧WkO ms j m.act u:=by
 have hm:Leads ms:=leads_of hok hg
 have hn:=hm.1
 obtain ⟨hn1,-,hmv⟩:=graphOk_mv hok
 obtain ⟨sl,rows,b1,b2,b3,b4,b5⟩:=l5Weak_ok L N true ms hm hL
 have hmem:∀(j:Nat) (hj:j<rows.length) (m:Move),m∈rows[j]↔∃u:Nat,m.to=(u:Int)∧WkO ms j m.act u:=fun j hj m=>((b5 j hj).2 m).trans (wsT_mem hm b1 b2 j (by omega) m)
 have hto:∀(j:Nat) (hj:j<rows.length),∀m∈rows[j],-4≤m.act∧m.act≤4∧0≤m.to∧m.to<(ms.length:Int):=fun j hj m hmm=>by
  obtain ⟨u,e,mid,t,h1,⟨hm',k,hk,ha,ht⟩,h3⟩:=(hmem j hj m).1 hmm
  have hb:-4≤((ms[mid])[k]).act∧((ms[mid])[k]).act≤4∧0≤((ms[mid])[k]).to∧((ms[mid])[k]).to<(ms.length:Int):=hmv mid hm' k hk
  have hul:u<ms.length:=h3.lt hm (fun x hx=>by omega)
  omega
 refine ⟨rows,b3,b4,⟨by omega,fun i hi=>⟨?_,fun k hk=>?_⟩⟩,hmem⟩
 ·have:(rows[i]).length≤540:=risesM_len (b5 i hi).1 fun m hmm=>by have:=hto i hi m hmm;omega
  omega
 ·have:=hto i hi _ (List.getElem_mem hk);omega
theorem wkO_zero {ms:List (List Move)} {t u:Nat}:WkO ms t 0 u↔∃t1,Mv ms t 0 t1∧Slip ms (fun x=>x=t1) u:=by
 constructor
 ·rintro ⟨mid,t',h1,h2,h3⟩
  rcases slip_head h1 with rfl|⟨t1,g1,g2⟩
  ·exact ⟨t',h2,h3⟩
  ·exact ⟨t1,g1,slip_one (slip_mv g2 h2) h3⟩
 ·rintro ⟨t1,h1,h2⟩
  exact ⟨t,t1,.base t rfl,h1,h2⟩
theorem endsI (L N:Nat) (ms rows:List (List Move)) (hm:Leads ms) (hr:Leads rows) (hw:WeakOf ms rows) (hL:8589934592≤L) (t:Nat) (ht:t<ms.length) (a:Int):
  ∃xs,f38_1 L N (t:Int) a ms rows=some xs∧xs.length≤62914560∧(∀v∈xs,∃u:Nat,v=(u:Int)∧u<ms.length)∧∀u:Nat,(u:Int)∈xs↔WkO ms t a u:=by
 have hlim:=lim_eq
 have hn:=hm.1
 have hrow:=(hm.2 t ht).1
 have hl:=hw.1
 have htr:t<rows.length:=by omega
 have hrow2:=(hr.2 t htr).1
 by_cases ha:a=0
 ·subst ha
  have key:∀(n k:Nat) (out:List Int),k≤(ms[t]).length→(ms[t]).length-k<n→out.length≤k*60→
    ∃xs,f38_1.l0 L N (fun z5=>f38_1.p0_e0 L N some z5) n ms ms[t] ((ms[t]).length:Int) (k:Int) out=some xs∧xs.length≤(ms[t]).length*60∧
     ∀v,v∈xs↔v∈out∨∃m∈(ms[t]).drop k,m.act=0∧∃u:Nat,v=(u:Int)∧u<ms.length∧Slip ms (fun x=>(x:Int)=m.to) u:=by
   intro n
   induction n with
   |zero=>intro k out _ h;omega
   |succ n ih=>
    intro k out hk hn' ho
    show ∃xs,f38_1.s0 L N _ (f38_1.l0 L N _ n) ms ms[t] ((ms[t]).length:Int) (k:Int) out=some xs∧_
    unfold f38_1.s0 f38_1.s0'
    by_cases hlt:k<(ms[t]).length
    ·simp only [lt_cast hlt,le0,Bool.and_true,cond_true,Int.toNat_natCast,at_lt hlt]
     rw [drop_cons hlt]
     by_cases ha:((ms[t])[k]).act=0
     ·have hb:(((ms[t])[k]).act==0)=true:=by rw [ha];rfl
      have hto:=(hm.2 t ht).2 k hlt
      obtain ⟨q,q1,q2,q3,q4,-⟩:=slip1_ok L N ms [((ms[t])[k]).to] hm (fun v hv=>by rw [List.mem_singleton.1 hv];exact hto) (by simp only [List.length_cons,List.length_nil];omega) (by simp only [List.length_cons,List.length_nil];omega) (by omega)
      have hle:decide (out.length+q.length≤lim)=true:=dt (by omega)
      rw [hb,cond_true,q1,Option.bind_some,hle,cond_true,wi_nat (by omega)]
      obtain ⟨xs,x1,x2,x3⟩:=ih (k+1) (out++q) (by omega) (by omega) (by rw [List.length_append,Nat.add_mul];omega)
      refine ⟨xs,x1,x2,fun v=>(x3 v).trans ?_⟩
      rw [List.mem_append]
      have hq:v∈q↔∃u:Nat,v=(u:Int)∧u<ms.length∧Slip ms (fun x=>(x:Int)=((ms[t])[k]).to) u:=by
       constructor
       ·intro hv
        obtain ⟨u,rfl⟩:=Int.eq_ofNat_of_zero_le (q3 v hv).1
        exact ⟨u,rfl,by have:=(q3 _ hv).2;omega,(Slip.iff (fun x=>List.mem_singleton) u).1 ((q4 u).1 hv)⟩
       ·rintro ⟨u,rfl,-,h⟩
        exact (q4 u).2 ((Slip.iff (fun x=>List.mem_singleton) u).2 h)
      constructor
      ·rintro ((h|h)|⟨m,h1,h2⟩)
       ·exact .inl h
       ·exact .inr ⟨_,.head _,ha,hq.1 h⟩
       ·exact .inr ⟨m,.tail _ h1,h2⟩
      ·rintro (h|⟨m,h1,h2,h3⟩)
       ·exact .inl (.inl h)
       ·rcases List.mem_cons.1 h1 with rfl|h1
        ·exact .inl (.inr (hq.2 h3))
        ·exact .inr ⟨m,h1,h2,h3⟩
     ·have hb:(((ms[t])[k]).act==0)=false:=beq_eq_false_iff_ne.2 ha
      rw [hb,cond_false,wi_nat (by omega)]
      obtain ⟨xs,x1,x2,x3⟩:=ih (k+1) out (by omega) (by omega) (by omega)
      refine ⟨xs,x1,x2,fun v=>(x3 v).trans ?_⟩
      constructor
      ·rintro (h|⟨m,h1,h2⟩)
       ·exact .inl h
       ·exact .inr ⟨m,.tail _ h1,h2⟩
      ·rintro (h|⟨m,h1,h2,h3⟩)
       ·exact .inl h
       ·rcases List.mem_cons.1 h1 with rfl|h1
        ·exact absurd h2 ha
        ·exact .inr ⟨m,h1,h2,h3⟩
    ·simp only [ge_cast hlt,cond_false]
     refine ⟨out,rfl,Nat.le_trans ho (Nat.mul_le_mul hk (Nat.le_refl _)),fun v=>?_⟩
     rw [drop_end hlt]
     constructor
     ·exact .inl
     ·rintro (h|⟨m,h1,h2⟩)
      ·exact h
      ·cases h1
  obtain ⟨xs,x1,x2,x3⟩:=key L 0 [] (by omega) (by omega) (by simp)
  refine ⟨xs,?_,by omega,fun v hv=>?_,fun u=>?_⟩
  ·show f38_1.b L N some (t:Int) 0 ms rows=_
   unfold f38_1.b f38_1.b'
   simp only [show ((0:Int)==0)=true from rfl,cond_true,lt_cast ht,le0,Bool.and_true,Int.toNat_natCast,at_lt ht]
   exact x1
  ·rcases (x3 v).1 hv with h|⟨m,-,-,u,e,h,-⟩
   ·cases h
   ·exact ⟨u,e,h⟩
  ·rw [x3,wkO_zero]
   constructor
   ·rintro (h|⟨m,h1,h2,u',e,-,h3⟩)
    ·cases h
    ·obtain rfl:u=u':=by omega
     obtain ⟨k,hk,rfl⟩:=List.mem_iff_getElem.1 (List.mem_of_mem_drop h1)
     obtain ⟨t1,ht1,-⟩:=hm.nat ht hk
     refine ⟨t1,⟨ht,k,hk,h2,ht1⟩,(Slip.iff (fun x=>?_) u).1 h3⟩
     rw [ht1];omega
   ·rintro ⟨t1,⟨ht',k,hk,h2,ht1⟩,h3⟩
    refine .inr ⟨_,by rw [List.drop_zero];exact List.getElem_mem hk,h2,u,rfl,?_,(Slip.iff (fun x=>?_) u).1 h3⟩
    ·have:=(hm.2 t ht).2 k hk
     exact h3.lt hm (fun x hx=>by omega)
    ·rw [ht1];omega
 ·have key:∀(n k:Nat) (out:List Int),k≤(rows[t]).length→(rows[t]).length-k<n→out.length≤k→
    f38_1.l1 L N (fun z17=>f38_1.p1_e2 L N some z17) n a rows[t] ((rows[t]).length:Int) (k:Int) out=some (out++(((rows[t]).drop k).filter fun m=>m.act==a).map Move.to):=by
   intro n
   induction n with
   |zero=>intro k out _ h;omega
   |succ n ih=>
    intro k out hk hn' ho
    show f38_1.s1 L N _ (f38_1.l1 L N _ n) a rows[t] ((rows[t]).length:Int) (k:Int) out=_
    unfold f38_1.s1 f38_1.s1'
    by_cases hlt:k<(rows[t]).length
    ·have hle:decide (out.length+([((rows[t])[k]).to]:List Int).length≤lim)=true:=dt (by simp only [List.length_cons,List.length_nil];omega)
     simp only [lt_cast hlt,le0,Bool.and_true,cond_true,Int.toNat_natCast,at_lt hlt,hle,wi_nat (show k<9223372036854775807 by omega)]
     rw [drop_cons hlt,List.filter_cons]
     cases (((rows[t])[k]).act==a) with
     |true=>
      rw [cond_true,ih (k+1) _ (by omega) (by omega) (by simp only [List.length_append,List.length_cons,List.length_nil];omega),if_pos rfl,List.map_cons,List.append_assoc];rfl
     |false=>
      rw [cond_false,ih (k+1) _ (by omega) (by omega) (by omega),if_neg (by simp)]
    ·simp only [ge_cast hlt,cond_false]
     rw [drop_end hlt,List.filter_nil,List.map_nil,List.append_nil];rfl
  have x1:=key L 0 [] (by omega) (by omega) (by simp)
  rw [List.drop_zero,List.nil_append] at x1
  refine ⟨((rows[t]).filter fun m=>m.act==a).map Move.to,?_,?_,fun v hv=>?_,fun u=>?_⟩
  ·show f38_1.b L N some (t:Int) a ms rows=_
   unfold f38_1.b f38_1.b'
   simp only [show (a==0)=false from beq_eq_false_iff_ne.2 ha,cond_false,lt_cast htr,le0,Bool.and_true,cond_true,Int.toNat_natCast,at_lt htr]
   exact x1
  ·rw [List.length_map]
   have:=List.length_filter_le (fun m:Move=>m.act==a) rows[t]
   omega
  ·obtain ⟨m,hm1,rfl⟩:=List.mem_map.1 hv
   obtain ⟨k,hk,rfl⟩:=List.mem_iff_getElem.1 (List.mem_filter.1 hm1).1
   obtain ⟨u,hu,hul⟩:=hr.nat htr hk
   exact ⟨u,hu,by omega⟩
  ·rw [List.mem_map]
   have h1:=(hw.2 t htr ⟨a,(u:Int)⟩).trans wkS_iff
   constructor
   ·rintro ⟨m,hm1,hto⟩
    obtain ⟨g1,g2⟩:=List.mem_filter.1 hm1
    have hact:m.act=a:=by simpa using g2
    have he:m=⟨a,(u:Int)⟩:=by rw [←mv_eta m,hact,hto]
    rw [he] at g1
    rcases h1.1 g1 with ⟨h,-⟩|⟨-,h⟩
    ·exact absurd h ha
    ·exact h
   ·intro h
    exact ⟨⟨a,(u:Int)⟩,List.mem_filter.2 ⟨h1.2 (.inr ⟨ha,h⟩),by simp⟩,rfl⟩
def RootM (ms:List (List Move)) (q:List Int) (t:Nat) (m:Move):Prop:=∃u,WkO ms t m.act u∧q.getD m.to.toNat 0=q.getD u 0
theorem rootB_iff {ms:List (List Move)} (hm:Leads ms) {q:List Int} {s t:Nat} (hs:s<ms.length):RootB ms q s t↔∀m∈ms[s],RootM ms q t m:=by
 constructor
 ·intro h m hmm
  obtain ⟨k,hk,rfl⟩:=List.mem_iff_getElem.1 hmm
  obtain ⟨s',hs',-⟩:=hm.nat hs hk
  obtain ⟨u,h1,h2⟩:=h _ s' ⟨hs,k,hk,rfl,hs'⟩
  exact ⟨u,h1,by rw [hs',Int.toNat_natCast];exact h2⟩
 ·rintro h a s' ⟨hs2,k,hk,rfl,hs'⟩
  obtain ⟨u,h1,h2⟩:=h _ (List.getElem_mem hk)
  exact ⟨u,h1,by rw [hs',Int.toNat_natCast] at h2;exact h2⟩
theorem contI (L N:Nat) (q xs:List Int) (m:Move) (hx:∀v∈xs,∃u:Nat,v=(u:Int)∧u<q.length) (c:Nat) (hmc:m.to=(c:Int)) (hc:c<q.length) (hl:xs.length<L) (hl2:xs.length≤1099511627776):
  f41_1 L N xs q m=some (xs.any fun v=>q.getD v.toNat 0==q.getD c 0):=by
 have sub:∀x∈xs,f42_1 L N x q m=some (q.getD x.toNat 0==q.getD c 0):=fun x hxx=>by
  obtain ⟨u,rfl,hu⟩:=hx x hxx
  show f42_1.b' L N some (u:Int) q m=_
  unfold f42_1.b'
  simp only [hmc,lt_cast hu,lt_cast hc,le0,Bool.and_true,cond_true,Int.toNat_natCast,atD]
 obtain ⟨v,e1,e2⟩:=seek_idx (seek_loop xs (0:Int) (fun x=>f42_1 L N x q m) (fun v=>q.getD v.toNat 0==q.getD c 0) sub (some (-1)) (fun z=>some z)
  (fun n i=>f72_1.l0 L N (some (-1)) (fun z=>some z) n xs q m (xs.length:Int) i) (fun n i=>rfl) hl2 L 0 (by omega) (by omega))
 have hidx:f72_1 L N xs q m=some v:=e1
 show f41_1.b' L N some xs q m=_
 unfold f41_1.b'
 rw [hidx,Option.bind_some,e2]
theorem rootI (L N:Nat) (ms rows:List (List Move)) (hm:Leads ms) (hr:Leads rows) (hw:WeakOf ms rows) (hL:8589934592≤L) (q:List Int) (hq:q.length=ms.length) (s t:Nat) (hs:s<ms.length) (ht:t<ms.length):
  f40_1 L N (s:Int) (t:Int) ms ms rows q=some (isB (RootB ms q s t)):=by
 have hrow:=(hm.2 s hs).1
 have key:∀(n k:Nat),k≤(ms[s]).length→(ms[s]).length-k<n→
   f40_1.l0 L N (f40_1.p0_e0 L N some) (fun z9=>f40_1.p0_r L N some z9) n (t:Int) ms rows q ms[s] ((ms[s]).length:Int) (k:Int)=some (isB (∀m∈(ms[s]).drop k,RootM ms q t m)):=by
  intro n
  induction n with
  |zero=>intro k _ h;omega
  |succ n ih=>
   intro k hk hn'
   show f40_1.s0 L N _ _ (f40_1.l0 L N _ _ n) (t:Int) ms rows q ms[s] ((ms[s]).length:Int) (k:Int)=_
   unfold f40_1.s0 f40_1.s0'
   by_cases hlt:k<(ms[s]).length
   ·obtain ⟨c,hc,hcl⟩:=hm.nat hs hlt
    obtain ⟨xs,x1,x2,x3,x4⟩:=endsI L N ms rows hm hr hw hL t ht ((ms[s])[k]).act
    have hcon:=contI L N q xs (Move.mk ((ms[s])[k]).act ((ms[s])[k]).to) (fun v hv=>by rw [hq];exact x3 v hv) c hc (by omega) (by omega) (by omega)
    have hany:(xs.any fun v=>q.getD v.toNat 0==q.getD c 0)=isB (RootM ms q t (ms[s])[k]):=isB_eq (by
     rw [List.any_eq_true]
     constructor
     ·rintro ⟨v,hv,e⟩
      obtain ⟨u,rfl,-⟩:=x3 v hv
      refine ⟨u,(x4 u).1 hv,?_⟩
      rw [hc,Int.toNat_natCast]
      rw [Int.toNat_natCast] at e
      exact (eq_of_beq e).symm
     ·rintro ⟨u,h1,h2⟩
      refine ⟨(u:Int),(x4 u).2 h1,?_⟩
      rw [hc,Int.toNat_natCast] at h2
      rw [Int.toNat_natCast,h2]
      exact beq_self_eq_true _)
    simp only [lt_cast hlt,le0,Bool.and_true,cond_true,Int.toNat_natCast,at_lt hlt,x1,Option.bind_some,hcon,hany,wi_nat (show k<9223372036854775807 by omega)]
    rw [drop_cons hlt]
    by_cases hR:RootM ms q t (ms[s])[k]
    ·rw [isB_true hR,Bool.not_true,cond_false,ih (k+1) (by omega) (by omega)]
     exact congrArg some (isB_congr ⟨fun h m hmm=>by rcases List.mem_cons.1 hmm with rfl|hmm;exact hR;exact h m hmm,fun h m hmm=>h m (.tail _ hmm)⟩)
    ·rw [isB_false hR,Bool.not_false,cond_true]
     exact congrArg some (isB_false fun h=>hR (h _ (.head _))).symm
   ·simp only [ge_cast hlt,cond_false]
    rw [drop_end hlt]
    exact congrArg some (isB_true fun m hmm=>by cases hmm).symm
 show f40_1.b L N some (s:Int) (t:Int) ms ms rows q=_
 unfold f40_1.b f40_1.b'
 simp only [lt_cast hs,le0,Bool.and_true,cond_true,Int.toNat_natCast,at_lt hs]
 refine (key L 0 (by omega) (by omega)).trans (congrArg some (isB_congr ?_))
 rw [List.drop_zero]
 exact (rootB_iff hm hs).symm
theorem rootS (L N:Nat) (ms rt:List (List Move)) (hm:Leads ms) (hr:Leads rt) (hrl:rt.length=ms.length) (hw:∀(j:Nat) (hj:j<rt.length) (m:Move),m∈rt[j]↔∃u:Nat,m.to=(u:Int)∧WkO ms j m.act u) (hL:8589934592≤L) (q:List Int) (hq:q.length=ms.length) (s t:Nat) (hs:s<ms.length) (ht:t<ms.length):
  f46 L N ⟨ms⟩ ⟨rt⟩ q (s:Int) (t:Int)=some (isB (RootB ms q s t)):=by
 have hrow:=(hm.2 s hs).1
 have htr:t<rt.length:=by omega
 have key:∀(n k:Nat),k≤(ms[s]).length→(ms[s]).length-k<n→
   f46.l0 L N (f46.p0_e0 L N some) (fun z7=>f46.p0_r L N some z7) n q (s:Int) (t:Int) (k:Int) ms rt=some (isB (∀m∈(ms[s]).drop k,RootM ms q t m)):=by
  intro n
  induction n with
  |zero=>intro k _ h;omega
  |succ n ih=>
   intro k hk hn'
   show f46.s0 L N _ _ (f46.l0 L N _ _ n) q (s:Int) (t:Int) (k:Int) ms rt=_
   unfold f46.s0 f46.s0'
   by_cases hlt:k<(ms[s]).length
   ·obtain ⟨c,hc,hcl⟩:=hm.nat hs hlt
    have hcq:c<q.length:=by omega
    obtain ⟨r,r1,r2⟩:=l4Has_ok L N rt hr (by omega) q (by omega) t htr ((ms[s])[k]).act (q.getD c 0)
    have hany:r=isB (RootM ms q t (ms[s])[k]):=isB_eq (by
     rw [r2]
     constructor
     ·rintro ⟨_,k',hk',a1,a2⟩
      obtain ⟨u,hu,h1⟩:=(hw t htr _).1 (List.getElem_mem hk')
      refine ⟨u,?_,?_⟩
      ·have a1':((ms[s])[k]).act=((rt[t])[k']).act:=a1
       rw [a1'];exact h1
      ·have a2':q.getD c 0=q.getD ((rt[t])[k']).to.toNat 0:=a2
       rw [hc,Int.toNat_natCast,a2',hu,Int.toNat_natCast]
     ·rintro ⟨u,h1,h2⟩
      obtain ⟨k',hk',ek⟩:=List.mem_iff_getElem.1 ((hw t htr ⟨((ms[s])[k]).act,(u:Int)⟩).2 ⟨u,rfl,h1⟩)
      refine ⟨htr,k',hk',by rw [ek],?_⟩
      rw [hc,Int.toNat_natCast] at h2
      rw [ek]
      exact h2)
    have r1':f79 L N (Graph.mk rt) (t:Int) ((ms[s])[k]).act q (q.getD c 0)=some r:=r1
    simp only [lt_cast hs,lt_cast hlt,le0,Bool.and_true,cond_true,Int.toNat_natCast,at_lt hs,at_lt hlt,hc,lt_cast hcq,atD,r1',Option.bind_some,wi_nat (show k<9223372036854775807 by omega)]
    rw [drop_cons hlt,hany]
    by_cases hR:RootM ms q t (ms[s])[k]
    ·rw [isB_true hR,Bool.not_true,cond_false,ih (k+1) (by omega) (by omega)]
     exact congrArg some (isB_congr ⟨fun h m hmm=>by rcases List.mem_cons.1 hmm with rfl|hmm;exact hR;exact h m hmm,fun h m hmm=>h m (.tail _ hmm)⟩)
    ·rw [isB_false hR,Bool.not_false,cond_true]
     exact congrArg some (isB_false fun h=>hR (h _ (.head _))).symm
   ·simp only [lt_cast hs,le0,Bool.and_true,cond_true,Int.toNat_natCast,at_lt hs,ge_cast hlt,cond_false]
    rw [drop_end hlt]
    exact congrArg some (isB_true fun m hmm=>by cases hmm).symm
 show f46.b L N some ⟨ms⟩ ⟨rt⟩ q (s:Int) (t:Int)=_
 unfold f46.b f46.b'
 refine (key L 0 (by omega) (by omega)).trans (congrArg some (isB_congr ?_))
 rw [List.drop_zero]
 exact (rootB_iff hm hs).symm
theorem termsRoot_eq (L N:Nat) (hN:4194308≤N) (hL:8589934592≤L) (t u:Tree) (ds:List Tree) (ht:nodes t≤1048577) (hu:nodes u≤1048577) (hd:∀d∈ds,nodes d≤1048577) (hdl:ds.length≤1048577):
  ∃x ok,f11 L N t u ds=some (x,ok)∧f12 L N t u ds=some (x,ok)∧(ok=false→x=false∧∃g at',f35 L N t u ds=some (g,at',false))∧
   (ok=true→∃S a U b rows pre q,TermIn ds t S a∧TermIn ds u U b∧a.length+b.length≤60∧WeakFine ⟨bothL a b⟩ rows∧Chain (Akin rows) rows.length pre q∧Fix (Akin rows) rows.length q∧(x=true↔RootB (bothL a b) q 0 a.length∧RootB (bothL a b) q a.length 0)∧
    f35 L N t u ds=some (⟨bothL a b⟩,(a.length:Int),true)∧f36 L N ⟨bothL a b⟩=some (wkOut rows)∧f37 L N ⟨rows⟩=some q):=by
 obtain ⟨rows,at',ok,e1,e2,e3⟩:=bothOf_eq L N hN (by omega) t u ds ht hu hd hdl
 have e0:=e1
 show ∃x ok,f11.b' L N (fun a0 a1=>some (a0,a1)) t u ds=some (x,ok)∧f12.b' L N (fun a0 a1=>some (a0,a1)) t u ds=some (x,ok)∧_
 unfold f11.b' f12.b'
 rw [tree_eta,tree_eta,e1,e2]
 simp only [Option.bind_some]
 cases ok with
 |false=>exact ⟨false,false,rfl,rfl,fun _=>⟨rfl,_,_,rfl⟩,fun h=>by cases h⟩
 |true=>
  rw [Bool.not_true,cond_false,cond_false]
  obtain ⟨S,a,U,b,hS,hU,h60,rfl,rfl⟩:=e3 rfl
  obtain ⟨f1,f2⟩:=fine_both hS.graph hU.graph h60
  obtain ⟨wr,pre,q,w1,w2,w3,w4,w5,w6⟩:=weak_both L N (bothL a b) f1 f2 hL
  obtain ⟨rt,r1,r2,r3,r4⟩:=weakT L N (bothL a b) f1 f2 hL
  have hm:Leads (bothL a b):=leads_of f1 f2
  have hl:=bothL_len a b
  have hwl:wr.length=(bothL a b).length:=w4.weak.1
  have hql:=w6.1
  have ha:=(graphOk_mv hS.graph.1).1
  have ha:1≤a.length:=ha
  have hb:=(graphOk_mv hU.graph.1).1
  have hb:1≤b.length:=hb
  have w1':f36 L N (Graph.mk (Graph.mk (bothL a b)).moves)=some (wkOut wr):=w1
  have w3':f44 L N (Graph.mk (Graph.mk (bothL a b)).moves)=some q:=w3
  have r1':f45 L N (Graph.mk (Graph.mk (bothL a b)).moves) true=some ⟨rt⟩:=r1
  rw [w1',w3',r1']
  simp only [Option.bind_some]
  have w2':f37 L N (Graph.mk (wkOut wr).moves)=some q:=w2
  have i1:=rootI L N (bothL a b) wr hm w4.lead w4.weak hL q (by omega) 0 a.length (by omega) (by omega)
  have i2:=rootI L N (bothL a b) wr hm w4.lead w4.weak hL q (by omega) a.length 0 (by omega) (by omega)
  have s1:=rootS L N (bothL a b) rt hm r3 r2 r4 hL q (by omega) 0 a.length (by omega) (by omega)
  have s2:=rootS L N (bothL a b) rt hm r3 r2 r4 hL q (by omega) a.length 0 (by omega) (by omega)
  have i1':f40_1 L N (0:Int) (a.length:Int) (bothL a b) (bothL a b) (wkOut wr).moves q=some (isB (RootB (bothL a b) q 0 a.length)):=i1
  have i2':f40_1 L N (a.length:Int) (0:Int) (bothL a b) (bothL a b) (wkOut wr).moves q=some (isB (RootB (bothL a b) q a.length 0)):=i2
  have s1':f46 L N (Graph.mk (Graph.mk (bothL a b)).moves) (Graph.mk (Graph.mk rt).moves) q (0:Int) (a.length:Int)=some (isB (RootB (bothL a b) q 0 a.length)):=s1
  have s2':f46 L N (Graph.mk (Graph.mk (bothL a b)).moves) (Graph.mk (Graph.mk rt).moves) q (a.length:Int) (0:Int)=some (isB (RootB (bothL a b) q a.length 0)):=s2
  rw [w2',s1',Option.bind_some,Option.bind_some,i1',Option.bind_some]
  by_cases h1:RootB (bothL a b) q 0 a.length
  ·rw [isB_true h1,cond_true,cond_true,i2',s2',Option.bind_some]
   exact ⟨_,true,rfl,rfl,fun h=>(by cases h),fun _=>⟨S,a,U,b,wr,pre,q,hS,hU,h60,w4,w5,w6,isB_iff.trans ⟨fun h=>⟨h1,h⟩,fun h=>h.2⟩,by first|exact e0|rfl,by first|exact w1|rfl,by first|exact w2|rfl⟩⟩
  ·rw [isB_false h1,cond_false,cond_false]
   exact ⟨false,true,rfl,rfl,fun h=>(by cases h),fun _=>⟨S,a,U,b,wr,pre,q,hS,hU,h60,w4,w5,w6,⟨fun h=>(by cases h),fun h=>absurd h.1 h1⟩,by first|exact e0|rfl,by first|exact w1|rfl,by first|exact w2|rfl⟩⟩
end Go.Proofs.YthidlhjjnaldhaaGreatDoor.Ev
namespace Go.Proofs.YthidlhjjnaldhaaGreatDoor.Ev
open Go
set_option linter.unusedVariables false
set_option linter.unusedSimpArgs false
abbrev noT:Tree:=.mk 0 0 []
theorem getD_left {S U:List Tree} {i:Nat} (h:i<S.length):(S++U).getD i noT=S.getD i noT:=by
 rw [List.getD_eq_getElem?_getD,List.getD_eq_getElem?_getD,List.getElem?_append_left h]
theorem getD_right {S U:List Tree} {i:Nat} (h:S.length≤i):(S++U).getD i noT=U.getD (i-S.length) noT:=by
 rw [List.getD_eq_getElem?_getD,List.getD_eq_getElem?_getD,List.getElem?_append_right h]
theorem TermIn.place {ds:List Tree} {t:Tree} {S:List Tree} {rows:List (List Move)} (h:TermIn ds t S rows) {i:Nat} (hi:i<rows.length) {s:Step} (hs:s∈steps ds (S.getD i noT)):
  (S.map ttx).idxOf (ttx s.thn)<S.length∧S.getD ((S.map ttx).idxOf (ttx s.thn)) noT=s.thn:=by
 have hl:=h.len
 have hin:=(h.good i hi).1 s hs
 have hx:=List.idxOf_lt_length_of_mem hin
 have hx':(S.map ttx).idxOf (ttx s.thn)<S.length:=by rw [List.length_map] at hx;exact hx
 refine ⟨hx',?_⟩
 have e1:=List.getElem_idxOf (x:=ttx s.thn) (xs:=S.map ttx) hx
 rw [List.getElem_map] at e1
 have hm1:S[(S.map ttx).idxOf (ttx s.thn)]∈S:=List.getElem_mem hx'
 obtain ⟨k1,-,w1,-⟩:=h.fits _ hm1
 have hi':i<S.length:=by omega
 have hSi:S.getD i noT=S[i]:=by rw [List.getD_eq_getElem?_getD,List.getElem?_eq_getElem hi'];rfl
 obtain ⟨k2,l2,w2,c2⟩:=h.fits _ (List.getElem_mem hi')
 rw [hSi] at hs
 obtain ⟨-,k3,w3,-,-⟩:=(steps_bnd ds h.defs S[i] k2 w2 l2 c2).1 s hs
 rw [List.getD_eq_getElem?_getD,List.getElem?_eq_getElem hx']
 exact ttx_one w1 w3 e1
theorem TermIn.row1 {ds:List Tree} {t:Tree} {S:List Tree} {rows:List (List Move)} (h:TermIn ds t S rows) {i:Nat} (hi:i<rows.length) {m:Move} (hm:m∈rows[i]):
  ∃s∈steps ds (S.getD i noT),s.act=m.act∧∃k:Nat,k<S.length∧m.to=(k:Int)∧S.getD k noT=s.thn:=by
 rw [(h.good i hi).2,tidyM_mem] at hm
 obtain ⟨s,hs,rfl⟩:=List.mem_map.1 hm
 obtain ⟨h1,h2⟩:=h.place hi hs
 exact ⟨s,hs,rfl,_,h1,rfl,h2⟩
theorem TermIn.row2 {ds:List Tree} {t:Tree} {S:List Tree} {rows:List (List Move)} (h:TermIn ds t S rows) {i:Nat} (hi:i<rows.length) {s:Step} (hs:s∈steps ds (S.getD i noT)):
  ∃k:Nat,k<S.length∧(⟨s.act,(k:Int)⟩:Move)∈rows[i]∧S.getD k noT=s.thn:=by
 obtain ⟨h1,h2⟩:=h.place hi hs
 refine ⟨_,h1,?_,h2⟩
 rw [(h.good i hi).2,tidyM_mem]
 exact List.mem_map.2 ⟨s,hs,rfl⟩
section
variable {ds : List Tree} {t u : Tree} {S U : List Tree} {a b : List (List Move)} (hS : TermIn ds t S a) (hU : TermIn ds u U b)
include hS hU
theorem bothMv1 {i j:Nat} {c:Int} (h:Mv (bothL a b) i c j):∃s∈steps ds ((S++U).getD i noT),s.act=c∧(S++U).getD j noT=s.thn:=by
 obtain ⟨hi,k,hk,hact,hto⟩:=h
 have hl:=bothL_len a b
 have h1:=hS.len
 have h2:=hU.len
 have hmem:((bothL a b)[i])[k]∈(bothL a b)[i]:=List.getElem_mem hk
 generalize hM:((bothL a b)[i])[k]=m at hmem hact hto
 by_cases hia:i<a.length
 ·have e:(bothL a b)[i]=a[i]:=by unfold bothL;exact List.getElem_append_left hia
  rw [e] at hmem
  obtain ⟨s,g1,g2,k',g3,g4,g5⟩:=hS.row1 hia hmem
  obtain rfl:j=k':=by omega
  refine ⟨s,by rw [getD_left (by omega)];exact g1,by rw [g2,hact],by rw [getD_left g3];exact g5⟩
 ·have hib:i-a.length<b.length:=by omega
  have e:(bothL a b)[i]=shiftR a.length b[i-a.length]:=by
   have h3:i<(a++b.map (shiftR a.length)).length:=hi
   show (a++b.map (shiftR a.length))[i]=_
   rw [List.getElem_append_right (show a.length≤i by omega),List.getElem_map]
  rw [e] at hmem
  unfold shiftR at hmem
  obtain ⟨m',hm',rfl⟩:=List.mem_map.1 hmem
  obtain ⟨s,g1,g2,k',g3,g4,g5⟩:=hU.row1 hib hm'
  have hto':m'.to+(a.length:Int)=(j:Int):=hto
  have hact':m'.act=c:=hact
  refine ⟨s,by rw [getD_right (by omega),←h1];exact g1,by rw [g2,hact'],?_⟩
  rw [getD_right (by omega),←h1,show j-a.length=k' by omega];exact g5
theorem bothMv2 {i:Nat} (hi:i<(bothL a b).length) {s:Step} (hs:s∈steps ds ((S++U).getD i noT)):∃j,Mv (bothL a b) i s.act j∧(S++U).getD j noT=s.thn:=by
 have hl:=bothL_len a b
 have h1:=hS.len
 have h2:=hU.len
 by_cases hia:i<a.length
 ·have e:(bothL a b)[i]=a[i]:=by unfold bothL;exact List.getElem_append_left hia
  rw [getD_left (by omega)] at hs
  obtain ⟨k,g1,g2,g3⟩:=hS.row2 hia hs
  refine ⟨k,?_,by rw [getD_left g1];exact g3⟩
  rw [←e] at g2
  obtain ⟨q,hq,eq⟩:=List.mem_iff_getElem.1 g2
  exact ⟨hi,q,hq,by rw [eq],by rw [eq]⟩
 ·have hib:i-a.length<b.length:=by omega
  have e:(bothL a b)[i]=shiftR a.length b[i-a.length]:=by
   have h3:i<(a++b.map (shiftR a.length)).length:=hi
   show (a++b.map (shiftR a.length))[i]=_
   rw [List.getElem_append_right (show a.length≤i by omega),List.getElem_map]
  rw [getD_right (by omega),←h1] at hs
  obtain ⟨k,g1,g2,g3⟩:=hU.row2 hib hs
  refine ⟨a.length+k,?_,by rw [getD_right (by omega),←h1,show a.length+k-a.length=k by omega];exact g3⟩
  have g4:(⟨s.act,((a.length+k:Nat):Int)⟩:Move)∈(bothL a b)[i]:=by
   rw [e]
   unfold shiftR
   refine List.mem_map.2 ⟨_,g2,?_⟩
   show (⟨s.act,(k:Int)+(a.length:Int)⟩:Move)=_
   rw [show ((a.length+k:Nat):Int)=(k:Int)+(a.length:Int) by omega]
  obtain ⟨q,hq,eq⟩:=List.mem_iff_getElem.1 g4
  exact ⟨hi,q,hq,by rw [eq],by rw [eq]⟩
end
end Go.Proofs.YthidlhjjnaldhaaGreatDoor.Ev
namespace Go.Proofs.YthidlhjjnaldhaaGreatDoor.Ev
open Go
set_option linter.unusedVariables false
set_option linter.unusedSimpArgs false
structure Two (ds:List Tree) (t u:Tree) (ms:List (List Move)) (X:Nat→Tree) (n:Nat):Prop where
 lead:Leads ms
 one:∀{i j:Nat} {c:Int},Mv ms i c j→∃s∈steps ds (X i),s.act=c∧X j=s.thn
 two:∀{i:Nat},i<ms.length→∀{s:Step},s∈steps ds (X i)→∃j,Mv ms i s.act j∧X j=s.thn
 pos:0<ms.length
 lt:n<ms.length
 fst:X 0=t
 snd:X n=u
theorem two_of {ds:List Tree} {t u:Tree} {S U:List Tree} {a b:List (List Move)} (hS:TermIn ds t S a) (hU:TermIn ds u U b) (hm:Leads (bothL a b)):Two ds t u (bothL a b) (fun i=>(S++U).getD i noT) a.length:=by
 have hl:=bothL_len a b
 have h1:=hS.len
 have h2:=hU.len
 have p1:=hS.pos
 have p2:=hU.pos
 exact ⟨hm,fun h=>bothMv1 hS hU h,fun hi _ hs=>bothMv2 hS hU hi hs,by omega,by omega,by show (S++U).getD 0 noT=t;rw [getD_left (by omega)];exact hS.first,
  by show (S++U).getD a.length noT=u;rw [getD_right (by omega),show a.length-S.length=0 by omega];exact hU.first⟩
section
variable {ds : List Tree} {t u t' u' : Tree} {ms ms' : List (List Move)} {X X' : Nat → Tree} {n n' : Nat} (A : Two ds t u ms X n) (A' : Two ds t' u' ms' X' n')
include A A'
theorem copy_mv {i j i':Nat} {c:Int} (hi':i'<ms'.length) (e:X i=X' i') (h:Mv ms i c j):∃j',Mv ms' i' c j'∧X j=X' j'∧j'<ms'.length:=by
 obtain ⟨s,g1,g2,g3⟩:=A.one h
 rw [e] at g1
 obtain ⟨j',g4,g5⟩:=A'.two hi' g1
 rw [g2] at g4
 exact ⟨j',g4,g3.trans g5.symm,(g4.lt A'.lead).2⟩
theorem copy_slip {i k i':Nat} (hi':i'<ms'.length) (e:X i=X' i') (h:Slip ms (fun x=>x=i) k):∃k',Slip ms' (fun x=>x=i') k'∧X k=X' k'∧k'<ms'.length:=by
 refine slip_ind (P:=fun k=>∃k',Slip ms' (fun x=>x=i') k'∧X k=X' k'∧k'<ms'.length) (fun x hx=>by subst hx;exact ⟨i',.base i' rfl,e,hi'⟩) (fun x y hx hmv=>?_) h
 obtain ⟨x',g1,g2,g3⟩:=hx
 obtain ⟨y',g4,g5,g6⟩:=copy_mv A A' g3 g2 hmv
 exact ⟨y',slip_mv g1 g4,g5,g6⟩
theorem copy_wkO {i k i':Nat} {c:Int} (hi':i'<ms'.length) (e:X i=X' i') (h:WkO ms i c k):∃k',WkO ms' i' c k'∧X k=X' k'∧k'<ms'.length:=by
 obtain ⟨mid,x,h1,h2,h3⟩:=h
 obtain ⟨mid',g1,g2,g3⟩:=copy_slip A A' hi' e h1
 obtain ⟨x',g4,g5,g6⟩:=copy_mv A A' g3 g2 h2
 obtain ⟨k',g7,g8,g9⟩:=copy_slip A A' g6 g5 h3
 exact ⟨k',⟨mid',x',g1,g4,g7⟩,g8,g9⟩
theorem copy_wkS {i k i':Nat} {c:Int} (hi':i'<ms'.length) (e:X i=X' i') (h:WkS ms i ⟨c,(k:Int)⟩):∃k':Nat,WkS ms' i' ⟨c,(k':Int)⟩∧X k=X' k'∧k'<ms'.length:=by
 rcases wkS_iff.1 h with ⟨hc,hs⟩|⟨hc,ho⟩
 ·obtain ⟨k',g1,g2,g3⟩:=copy_slip A A' hi' e hs
  exact ⟨k',wkS_iff.2 (.inl ⟨hc,g1⟩),g2,g3⟩
 ·obtain ⟨k',g1,g2,g3⟩:=copy_wkO A A' hi' e ho
  exact ⟨k',wkS_iff.2 (.inr ⟨hc,g1⟩),g2,g3⟩
theorem copy_more {i k i':Nat} {c:Int} (hi':i'<ms'.length) (e:∀s∈steps ds (X i),s∈steps ds (X' i')) (h:WkO ms i c k):∃k',WkO ms' i' c k'∧X k=X' k'∧k'<ms'.length:=by
 have first:∀{c:Int} {x:Nat},Mv ms i c x→∃x',Mv ms' i' c x'∧X x=X' x'∧x'<ms'.length:=fun hmv=>by
  obtain ⟨s,g1,g2,g3⟩:=A.one hmv
  obtain ⟨x',g4,g5⟩:=A'.two hi' (e s g1)
  rw [g2] at g4
  exact ⟨x',g4,g3.trans g5.symm,(g4.lt A'.lead).2⟩
 obtain ⟨mid,x,h1,h2,h3⟩:=h
 rcases slip_head h1 with rfl|⟨y,g1,g2⟩
 ·obtain ⟨x',g4,g5,g6⟩:=first h2
  obtain ⟨k',g7,g8,g9⟩:=copy_slip A A' g6 g5 h3
  exact ⟨k',⟨i',x',.base i' rfl,g4,g7⟩,g8,g9⟩
 ·obtain ⟨y',g4,g5,g6⟩:=first g1
  obtain ⟨k',⟨m',x',q1,q2,q3⟩,g8,g9⟩:=copy_wkO A A' g6 g5 ⟨mid,x,g2,h2,h3⟩
  exact ⟨k',⟨m',x',slip_one (slip_mv (.base i' rfl) g4) q1,q2,q3⟩,g8,g9⟩
end
theorem wz_weak {ms rows:List (List Move)} (hm:Leads ms) (hw:WeakOf ms rows) {B:Nat→Nat→Prop} (hs:∀i j,B i j→B j i) (hz:∀(i j:Nat) (a:Int) (k:Nat),B i j→WkS ms i ⟨a,(k:Int)⟩→∃k':Nat,k'<ms.length∧WkS ms j ⟨a,(k':Int)⟩∧B k k') {w:List Int} {pre:List (List Int)} (hc:Chain (Akin rows) rows.length pre w) {i j:Nat} (hi:i<ms.length) (hj:j<ms.length) (e:B i j):w.getD i 0=w.getD j 0:=by
 have hl:=hw.1
 refine hc.keeps (akinEq rows) (fun i j=>B i j) (fun p hpl hp i j hi hj e=>⟨hp i j hi hj e,fun m=>?_⟩) i j (by omega) (by omega) e
 have go:∀i j,i<rows.length→j<rows.length→B i j→∀m,Sig rows p i m→Sig rows p j m:=fun i j hi hj e m ⟨hu,k,hk,g1,g2⟩=>by
  have hmem:=(hw.2 i hu _).1 (List.getElem_mem hk)
  have hto:∃u:Nat,(rows[i])[k].to=(u:Int)∧u<ms.length:=by
   obtain ⟨mid,h1,⟨_,ht⟩|⟨_,_,_,_,u',_,_,_,hu,hto⟩⟩:=hmem
   ·exact ⟨mid,ht,slip_lt1 hm (by omega) h1⟩
   ·rename_i hm1 k1 hk1 t1 h2 h3 h4
    have:=(hm.2 mid hm1).2 k1 hk1
    exact ⟨u',hto,slip_lt1 hm (by omega) hu⟩
  obtain ⟨u,e1,hul⟩:=hto
  have e2:WkS ms i ⟨(rows[i])[k].act,(u:Int)⟩:=by rw [←e1,mv_eta];exact hmem
  obtain ⟨u',f1,f2,f3⟩:=hz i j _ u e e2
  obtain ⟨k',hk',ek⟩:=List.mem_iff_getElem.1 ((hw.2 j hj _).2 f2)
  exact ⟨hj,k',hk',by rw [ek,g1],by rw [g2,ek,e1,Int.toNat_natCast];exact hp u u' (by omega) (by omega) f3⟩
 exact ⟨go j i hj hi (hs i j e) m,go i j hi hj e m⟩
section
variable {ds : List Tree} {t u t' u' : Tree} {ms ms' rows rows' : List (List Move)} {X X' : Nat → Tree} {n n' : Nat} {w w' : List Int} {pre : List (List Int)}
theorem copy_weak (A:Two ds t u ms X n) (A':Two ds t' u' ms' X' n') (hw:WeakOf ms rows) (hq:Fix (Akin rows) rows.length w) (hw':WeakOf ms' rows') (hc':Chain (Akin rows') rows'.length pre w')
  {i j i' j':Nat} (hi:i<ms.length) (hj:j<ms.length) (hi':i'<ms'.length) (hj':j'<ms'.length) (ei:X i=X' i') (ej:X j=X' j') (e:w.getD i 0=w.getD j 0):w'.getD i' 0=w'.getD j' 0:=by
 refine wz_weak A'.lead hw' (B:=fun i' j'=>i'<ms'.length∧j'<ms'.length∧∃i j,i<ms.length∧j<ms.length∧X i=X' i'∧X j=X' j'∧w.getD i 0=w.getD j 0) (fun i' j' ⟨h1,h2,i,j,h3,h4,h5,h6,h7⟩=>⟨h2,h1,j,i,h4,h3,h6,h5,h7.symm⟩)
  (fun i' j' c k ⟨h1,h2,i,j,h3,h4,h5,h6,h7⟩ hk=>?_) hc' hi' hj' ⟨hi',hj',i,j,hi,hj,ei,ej,e⟩
 have hkl:k<ms'.length:=by
  rcases wkS_iff.1 hk with ⟨-,hs⟩|⟨-,mid,x,q1,q2,q3⟩
  ·exact slip_lt1 A'.lead h1 hs
  ·exact slip_lt1 A'.lead (q2.lt A'.lead).2 q3
 obtain ⟨k1,g1,g2,g3⟩:=copy_wkS A' A h3 h5.symm hk
 obtain ⟨k2,g4,g5,g6⟩:=weak_sim A.lead hw hq h3 h4 h7 g1
 obtain ⟨k3,g7,g8,g9⟩:=copy_wkS A A' h2 h6 g5
 exact ⟨k3,g9,g7,hkl,g9,k1,k2,g3,g4,g2.symm,g8,g6⟩
theorem kept_sum (A:Two ds t u ms X n) (A':Two ds (.mk 2 0 [t,t]) (.mk 2 0 [u,t]) ms' X' n') (hw:WeakOf ms rows) (hq:Fix (Akin rows) rows.length w) (hw':WeakOf ms' rows') (hc':Chain (Akin rows') rows'.length pre w')
  (r1:RootB ms w 0 n) (r2:RootB ms w n 0):RootB ms' w' 0 n'∧RootB ms' w' n' 0:=by
 have s1:steps ds (X' 0)=steps ds t++steps ds t:=by rw [A'.fst];unfold steps;rw [stp_sum]
 have s2:steps ds (X' n')=steps ds u++steps ds t:=by rw [A'.snd];unfold steps;rw [stp_sum]
 have ofT:∀{s:Step},s∈steps ds t→∃p,Mv ms 0 s.act p∧X p=s.thn∧p<ms.length:=fun hs=>by
  rw [←A.fst] at hs
  obtain ⟨p,g1,g2⟩:=A.two A.pos hs
  exact ⟨p,g1,g2,(g1.lt A.lead).2⟩
 have ofU:∀{s:Step},s∈steps ds u→∃p,Mv ms n s.act p∧X p=s.thn∧p<ms.length:=fun hs=>by
  rw [←A.snd] at hs
  obtain ⟨p,g1,g2⟩:=A.two A.lt hs
  exact ⟨p,g1,g2,(g1.lt A.lead).2⟩
 have wlt:∀{i k:Nat} {c:Int},WkO ms i c k→k<ms.length:=fun ⟨mid,x,q1,q2,q3⟩=>slip_lt1 A.lead (q2.lt A.lead).2 q3
 constructor
 ·intro c x' hmv
  obtain ⟨s,g1,g2,g3⟩:=A'.one hmv
  have hs:s∈steps ds t:=by rw [s1] at g1;exact (List.mem_append.1 g1).elim id id
  obtain ⟨p,g4,g5,g6⟩:=ofT hs
  rw [g2] at g4
  obtain ⟨q,g7,g8⟩:=r1 c p g4
  obtain ⟨q',g9,g10,g11⟩:=copy_more A A' (i:=n) (i':=n') A'.lt (fun s hs=>by rw [s2];rw [A.snd] at hs;exact List.mem_append_left _ hs) g7
  exact ⟨q',g9,copy_weak A A' hw hq hw' hc' g6 (wlt g7) (hmv.lt A'.lead).2 g11 (g5.trans g3.symm) g10 g8⟩
 ·intro c x' hmv
  obtain ⟨s,g1,g2,g3⟩:=A'.one hmv
  rw [s2] at g1
  rcases List.mem_append.1 g1 with hs|hs
  ·obtain ⟨p,g4,g5,g6⟩:=ofU hs
   rw [g2] at g4
   obtain ⟨q,g7,g8⟩:=r2 c p g4
   obtain ⟨q',g9,g10,g11⟩:=copy_more A A' (i:=0) (i':=0) A'.pos (fun s hs=>by rw [s1];rw [A.fst] at hs;exact List.mem_append_left _ hs) g7
   exact ⟨q',g9,copy_weak A A' hw hq hw' hc' g6 (wlt g7) (hmv.lt A'.lead).2 g11 (g5.trans g3.symm) g10 g8⟩
  ·obtain ⟨p,g4,g5,g6⟩:=ofT hs
   obtain ⟨y',g7,g8⟩:=A'.two (i:=0) A'.pos (s:=s) (by rw [s1];exact List.mem_append_left _ hs)
   rw [g2] at g7
   refine ⟨y',⟨0,y',.base 0 rfl,g7,.base y' rfl⟩,copy_weak A A' hw hq hw' hc' g6 g6 (hmv.lt A'.lead).2 (g7.lt A'.lead).2 (g5.trans g3.symm) (g5.trans g8.symm) rfl⟩
theorem kept_act {c:Int} (A:Two ds t u ms X n) (A':Two ds (.mk 1 c [t]) (.mk 1 c [u]) ms' X' n') (hw:WeakOf ms rows) (hq:Fix (Akin rows) rows.length w) (hw':WeakOf ms' rows') (hc':Chain (Akin rows') rows'.length pre w')
  (h:w.getD 0 0=w.getD n 0):RootB ms' w' 0 n'∧RootB ms' w' n' 0:=by
 have s1:steps ds (X' 0)=[⟨c,t⟩]:=by rw [A'.fst];unfold steps;rw [stp_act]
 have s2:steps ds (X' n')=[⟨c,u⟩]:=by rw [A'.snd];unfold steps;rw [stp_act]
 constructor
 ·intro d x' hmv
  obtain ⟨s,g1,g2,g3⟩:=A'.one hmv
  rw [s1] at g1
  have hs:=List.mem_singleton.1 g1
  subst hs
  obtain ⟨y',g4,g5⟩:=A'.two A'.lt (s:=⟨c,u⟩) (by rw [s2];exact List.mem_singleton.2 rfl)
  have g2':c=d:=g2
  subst g2'
  exact ⟨y',⟨n',y',.base n' rfl,g4,.base y' rfl⟩,copy_weak A A' hw hq hw' hc' A.pos A.lt (hmv.lt A'.lead).2 (g4.lt A'.lead).2 (A.fst.trans g3.symm) (A.snd.trans g5.symm) h⟩
 ·intro d x' hmv
  obtain ⟨s,g1,g2,g3⟩:=A'.one hmv
  rw [s2] at g1
  have hs:=List.mem_singleton.1 g1
  subst hs
  obtain ⟨y',g4,g5⟩:=A'.two A'.pos (s:=⟨c,t⟩) (by rw [s1];exact List.mem_singleton.2 rfl)
  have g2':c=d:=g2
  subst g2'
  exact ⟨y',⟨0,y',.base 0 rfl,g4,.base y' rfl⟩,copy_weak A A' hw hq hw' hc' A.lt A.pos (hmv.lt A'.lead).2 (g4.lt A'.lead).2 (A.snd.trans g3.symm) (A.fst.trans g5.symm) h.symm⟩
end
end Go.Proofs.YthidlhjjnaldhaaGreatDoor.Ev
namespace Go.Proofs.YthidlhjjnaldhaaGreatDoor.Ev
open Go
set_option linter.unusedVariables false
set_option linter.unusedSimpArgs false
theorem pair_draw (L N:Nat) (hN:8≤N) (hL:8≤L) {c:List Int} (hb:BOk c) {p:Int} (p0:0≤p) (pb:p≤1000000):
  ∃t u ds p',f34 L N c p=some (t,u,ds,c,p')∧nodes t≤110∧nodes u≤110∧ds.length≤3∧∀d∈ds,nodes d≤50:=by
 show ∃t u ds p',f34.b' L N (fun a0 a1 a2 a3 a4=>some (a0,a1,a2,a3,a4)) c p=_∧_
 unfold f34.b'
 obtain ⟨t,ds,p1,e,e1,e2,e3,e4,e5⟩:=called_draw L N hN hL hb p0 (by omega)
 obtain ⟨t2,p2,f,f1,f2,f3⟩:=term_draw L N hN hb (p:=p1) (n:=(ds.length:Int)) (by omega) (by omega) (by omega)
 obtain ⟨r,hr,r0,r1⟩:=pick_ok L N hb (p:=p2) (n:=5) (by omega) (by omega) (by omega)
 simp only [e,Option.bind_some,f,hr,tree_eta]
 have two:∀(fl:Bool) (q:Int),(fl=true→t.parts.length=2)→∃t' u' ds' p',f34.j0' L N (fun a0 a1 a2 a3 a4=>some (a0,a1,a2,a3,a4)) ds fl c q (0:Int) (0:Int) (0:Int) (0:Int) t.op t.n t.parts t2.op t2.n t2.parts=some (t',u',ds',c,p')∧nodes t'≤110∧nodes u'≤110∧ds'.length≤3∧∀d∈ds',nodes d≤50:=by
  intro fl q h
  unfold f34.j0'
  simp only [tree_eta]
  cases fl with
  |false=>
   rw [cond_false]
   exact ⟨_,_,_,_,rfl,by omega,by omega,e4,e5⟩
  |true=>
   have h2:=h rfl
   have hn:nodes t=1+nodess t.parts:=by cases t;rfl
   generalize hps:t.parts=ps at h2 hn
   match ps,h2 with
   |[x,y],_=>
    simp only [nodess] at hn
    refine ⟨_,_,_,_,rfl,by omega,?_,e4,e5⟩
    show 1+(nodes y+(nodes x+0))≤110
    omega
 by_cases q0:r=0
 ·rw [show (r==0)=true by simpa using q0,cond_true]
  exact ⟨_,_,_,_,rfl,by omega,by simp only [nodes,nodess];omega,e4,e5⟩
 rw [show (r==0)=false by simpa using q0,cond_false]
 by_cases q1:r=1
 ·rw [show (r==1)=true by simpa using q1,cond_true]
  exact ⟨_,_,_,_,rfl,by omega,by simp only [nodes,nodess];omega,e4,e5⟩
 rw [show (r==1)=false by simpa using q1,cond_false]
 by_cases q2:r=2
 ·rw [show (r==2)=true by simpa using q2,cond_true]
  have hp2:(((t.parts.length:Int)==2)=true→t.parts.length=2):=fun h=>by have:=eq_of_beq h;omega
  cases (t.op==2) with
  |true=>rw [cond_true];exact two _ _ hp2
  |false=>
   rw [cond_false]
   cases (t.op==3) with
   |true=>rw [cond_true];exact two _ _ hp2
   |false=>rw [cond_false];exact two false _ (fun h=>by cases h)
 rw [show (r==2)=false by simpa using q2,cond_false]
 by_cases q3:r=3
 ·rw [show (r==3)=true by simpa using q3,cond_true]
  obtain ⟨s,hs,s0,s1⟩:=do_ok L N hb (p:=p2+1) (by omega) (by omega)
  rw [hs]
  simp only [Option.bind_some]
  exact ⟨_,_,_,_,rfl,by simp only [nodes,nodess];omega,by simp only [nodes,nodess];omega,e4,e5⟩
 ·rw [show (r==3)=false by simpa using q3,cond_false]
  exact ⟨_,_,_,_,rfl,by omega,by omega,e4,e5⟩
end Go.Proofs.YthidlhjjnaldhaaGreatDoor.Ev
namespace Go.Proofs.YthidlhjjnaldhaaGreatDoor.Ev
open Go
set_option linter.unusedVariables false
set_option linter.unusedSimpArgs false
end Go.Proofs.YthidlhjjnaldhaaGreatDoor.Ev
namespace Go.Proofs.YthidlhjjnaldhaaGreatDoor.Ev
open Go
set_option linter.unusedVariables false
set_option linter.unusedSimpArgs false
theorem termsWeak_of (L N:Nat) {t u:Tree} {ds:List Tree} {ms rows:List (List Move)} {n:Nat} {q:List Int} (h:f35 L N t u ds=some (⟨ms⟩,(n:Int),true)) (h1:f36 L N ⟨ms⟩=some (wkOut rows)) (h2:f37 L N ⟨rows⟩=some q) (hn:n<q.length):
  f14 L N t u ds=some (q.getD 0 0==q.getD n 0,true):=by
 have h0:(decide ((0:Int)≤0)&&decide ((0:Int)<(q.length:Int)))=true:=by rw [dt (show (0:Int)<(q.length:Int) by omega)];rfl
 show f14.b' L N (fun a0 a1=>some (a0,a1)) t u ds=_
 unfold f14.b'
 rw [tree_eta,tree_eta,h]
 simp only [Option.bind_some,Bool.not_true,cond_false]
 have h1':f36 L N (Graph.mk (Graph.mk ms).moves)=some (wkOut rows):=h1
 rw [h1']
 simp only [Option.bind_some]
 have h2':f37 L N (wkOut rows)=some q:=h2
 rw [h2']
 simp only [Option.bind_some,h0,cond_true,le0,lt_cast hn,Bool.and_true,Int.toNat_natCast,atD]
 rfl
theorem termsWeak_no (L N:Nat) {t u:Tree} {ds:List Tree} {g:Graph} {a:Int} (h:f35 L N t u ds=some (g,a,false)):f14 L N t u ds=some (false,false):=by
 show f14.b' L N (fun a0 a1=>some (a0,a1)) t u ds=_
 unfold f14.b'
 rw [tree_eta,tree_eta,h]
 rfl
end Go.Proofs.YthidlhjjnaldhaaGreatDoor.Ev
namespace Go.Proofs.YthidlhjjnaldhaaGreatDoor.Ev
open Go
set_option linter.unusedVariables false
set_option linter.unusedSimpArgs false
theorem lawRootKept (x0:List Int) (hx0:DatOk (.sl (.int .u8)) x0):∃L N,f3 L N x0=some true:=by
 generalize hLL:8589934592=L
 generalize hNN:4194308=N
 refine ⟨L,N,?_⟩
 have hlim:=lim_eq
 obtain ⟨c,o1,o2⟩:=open_ok L N hx0
 obtain ⟨t,u,ds,p',d1,d2,d3,d4,d5⟩:=pair_draw L N (by omega) (by omega) o2 (p:=0) (by omega) (by omega)
 have hd:f10 L N x0=some (t,u,ds):=by
  show f10.b' L N (fun a0 a1 a2=>some (a0,a1,a2)) x0=_
  unfold f10.b'
  rw [o1]
  simp only [Option.bind_some,d1,tree_eta]
 have hdn:∀d∈ds,nodes d≤1048577:=fun d hd=>by have:=d5 d hd;omega
 obtain ⟨x,ok,w1,w2,w3,w4⟩:=termsRoot_eq L N (by omega) (by omega) t u ds (by omega) (by omega) hdn (by omega)
 obtain ⟨x2,ok2,v1,-,-,v4⟩:=termsRoot_eq L N (by omega) (by omega) (.mk 2 0 [t,t]) (.mk 2 0 [u,t]) ds (by simp only [nodes,nodess];omega) (by simp only [nodes,nodess];omega) hdn (by omega)
 obtain ⟨x3,ok3,u1,-,-,u4⟩:=termsRoot_eq L N (by omega) (by omega) (.mk 1 2 [t]) (.mk 1 2 [u]) ds (by simp only [nodes,nodess];omega) (by simp only [nodes,nodess];omega) hdn (by omega)
 have hal:∃z okz,f14 L N t u ds=some (z,okz)∧(x=true→ok2=true→x2=true)∧(z=true→ok3=true→x3=true):=by
  cases ok with
  |false=>
   obtain ⟨hx,g,at',e⟩:=w3 rfl
   exact ⟨false,false,termsWeak_no L N e,fun h=>(by rw [hx] at h;cases h),fun h=>(by cases h)⟩
  |true=>
   obtain ⟨S,a,U,b,rows,pre,q,hS,hU,h60,g1,g2,g3,g4,g5,g6,g7⟩:=w4 rfl
   obtain ⟨f1,f2⟩:=fine_both hS.graph hU.graph h60
   have A:=two_of hS hU (leads_of f1 f2)
   have hwl:rows.length=(bothL a b).length:=g1.weak.1
   have hql:=g3.1
   have hlt:=A.lt
   refine ⟨_,true,termsWeak_of L N g5 g6 g7 (by omega),fun h hk=>?_,fun h hk=>?_⟩
   ·obtain ⟨S',a',U',b',rows',pre',q',hS',hU',h60',k1,k2,k3,k4,-⟩:=v4 hk
    obtain ⟨f1',f2'⟩:=fine_both hS'.graph hU'.graph h60'
    obtain ⟨r1,r2⟩:=g4.1 h
    exact k4.2 (kept_sum A (two_of hS' hU' (leads_of f1' f2')) g1.weak g3 k1.weak k2 r1 r2)
   ·obtain ⟨S',a',U',b',rows',pre',q',hS',hU',h60',k1,k2,k3,k4,-⟩:=u4 hk
    obtain ⟨f1',f2'⟩:=fine_both hS'.graph hU'.graph h60'
    exact k4.2 (kept_act A (two_of hS' hU' (leads_of f1' f2')) g1.weak g3 k1.weak k2 (beq_iff_eq.1 h))
 obtain ⟨z,okz,z1,z2,z3⟩:=hal
 have put:∀(o n:Int) (ps:List Tree),f13 L N o n ps=some (.mk o n ps):=fun _ _ _=>rfl
 show f3.b' L N some x0=_
 unfold f3.b'
 by_cases hl:(x0.length:Int)>1048576
 ·rw [dt hl,cond_true]
 ·rw [df hl,cond_false,hd]
  rw [Option.bind_some,tree_eta,tree_eta,w1,Option.bind_some,w2,Option.bind_some,beq_self_eq_true,Bool.not_true,cond_false,beq_self_eq_true,Bool.not_true,cond_false]
  unfold f3.j0'
  simp only [tree_eta,put,Option.bind_some,v1,u1,z1]
  have hend:(bif !z then some true else bif !ok3 then some true else some x3)=some true:=by
   cases z with
   |false=>rfl
   |true=>
    cases ok3 with
    |false=>rfl
    |true=>rw [z3 rfl rfl];rfl
  cases x with
  |false=>exact hend
  |true=>
   cases ok2 with
   |false=>exact hend
   |true=>rw [z2 rfl rfl];exact hend
end Go.Proofs.YthidlhjjnaldhaaGreatDoor.Ev
