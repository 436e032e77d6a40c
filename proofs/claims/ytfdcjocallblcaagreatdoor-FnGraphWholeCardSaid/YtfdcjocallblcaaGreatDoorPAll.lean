/- Plain laws, in one text. -/
import Derived.Test.YtfdcjocallblcaaGreatDoorGS3c
import Derived.Test.YtfdcjocallblcaaGreatDoorEvZ
import Derived.Test.YtfdcjocallblcaaGreatDoorEvSort
import Derived.Lib.ItoaNum
import Derived.Test.YtfdcjocallblcaaGreatDoorPAll0
namespace Go.Proofs.YtfdcjocallblcaaGreatDoor.Ev
open Go
set_option linter.unusedVariables false
def BOk (c:List Int):Prop:=c.length≤2000∧∀b∈c,0≤b∧b≤255
theorem BOk.at {c:List Int} (h:BOk c) (i:Nat):0≤listAt c (0:Int) i∧listAt c (0:Int) i≤255:=by
 by_cases hi:i<c.length
 ·rw [at_lt hi];exact h.2 _ (List.getElem_mem hi)
 ·have:listAt c (0:Int) i=0:=by
   unfold listAt
   rw [List.getD_eq_getElem?_getD,List.getElem?_eq_none (by omega)];rfl
  omega
end Go.Proofs.YtfdcjocallblcaaGreatDoor.Ev
namespace Go.Proofs.YtfdcjocallblcaaGreatDoor.Ev
open Go
set_option linter.unusedVariables false
mutual
def depth:Tree→Nat
 |.mk o _ ps=>depths ps+if o=3 then 1 else 0
def depths:List Tree→Nat
 |[]=>0
 |p::r=>max (depth p) (depths r)
end
end Go.Proofs.YtfdcjocallblcaaGreatDoor.Ev
namespace Go.Proofs.YtfdcjocallblcaaGreatDoor.Ev
open Go
set_option linter.unusedVariables false
set_option linter.unusedSimpArgs false
def conjL:List Tree→Tree
 |[]=>.mk 0 0 []
 |f::r=>r.foldl (fun a f=>.mk 2 0 [a,f]) f
theorem conjL_snoc (fs:List Tree) (f:Tree):conjL (fs++[f])=if fs.length=0 then f else .mk 2 0 [conjL fs,f]:=by
 cases fs with
 |nil=>rfl
 |cons a r=>
  rw [if_neg (by simp)]
  show (r++[f]).foldl _ a=_
  rw [List.foldl_append];rfl
theorem snoc_ind {α:Type} {P:List α→Prop} (h0:P []) (h1:∀l x,P l→P (l++[x])) (l:List α):P l:=by
 have:∀n,∀l:List α,l.length=n→P l:=by
  intro n
  induction n with
  |zero=>intro l h;rw [List.eq_nil_of_length_eq_zero h];exact h0
  |succ n ih=>
   intro l h
   have hne:l≠[]:=fun e=>by rw [e] at h;simp at h
   rw [←List.dropLast_concat_getLast hne]
   exact h1 _ _ (ih _ (by rw [List.length_dropLast];omega))
 exact this _ l rfl
theorem shape2 {a b:Tree} (ha:shape a=true) (hb:shape b=true):shape (.mk 2 0 [a,b])=true:=by
 simp only [shape,shapes,ha,hb,good1,ar,Bool.and_true,decide_eq_true_eq]
 simp
theorem shape3 {n:Int} (hn:-4≤n∧n≤4) {a:Tree} (ha:shape a=true):shape (.mk 3 n [a])=true:=by
 simp only [shape,shapes,ha,good1,ar,Bool.and_true,decide_eq_true_eq]
 simp;omega
theorem shape1 {a:Tree} (ha:shape a=true):shape (.mk 1 0 [a])=true:=by
 simp only [shape,shapes,ha,good1,ar,Bool.and_true,decide_eq_true_eq]
 simp
theorem shape_conj (fs:List Tree) (h:∀f∈fs,shape f=true):shape (conjL fs)=true:=by
 revert h
 refine snoc_ind (P:=fun fs=>(∀f∈fs,shape f=true)→shape (conjL fs)=true) (fun _=>rfl) (fun l x ih h=>?_) fs
 rw [conjL_snoc]
 have hx:=h x (by simp)
 split
 ·exact hx
 ·exact shape2 (ih fun f hf=>h f (by simp [hf])) hx
theorem depth_conj {d:Nat} (fs:List Tree) (h:∀f∈fs,depth f≤d):depth (conjL fs)≤d:=by
 revert h
 refine snoc_ind (P:=fun fs=>(∀f∈fs,depth f≤d)→depth (conjL fs)≤d) (fun _=>by simp [conjL,depth,depths]) (fun l x ih h=>?_) fs
 rw [conjL_snoc]
 have hx:=h x (by simp)
 split
 ·exact hx
 ·have:=ih fun f hf=>h f (by simp [hf])
  simp only [depth,depths]
  simp;omega
theorem hold_conj {ms:List (List Move)} {s:Nat} (hs:s<ms.length) (fs:List Tree):hold ms (conjL fs) s=fs.all fun f=>hold ms f s:=by
 refine snoc_ind (P:=fun fs=>hold ms (conjL fs) s=fs.all fun f=>hold ms f s) (hold_true _ _ _ hs) (fun l x ih=>?_) fs
 rw [conjL_snoc,List.all_append]
 split
 ·rename_i h
  rw [List.eq_nil_of_length_eq_zero h];simp
 ·rw [hold_and _ _ _ _ hs,ih];simp
def sizeL (fs:List Tree):Nat:=1+(fs.map fun f=>nodes f+1).sum
theorem sizeL_snoc (fs:List Tree) (f:Tree):sizeL (fs++[f])=sizeL fs+nodes f+1:=by
 unfold sizeL;simp;omega
theorem sizeL_conj (fs:List Tree):fs=[]∨sizeL fs=nodes (conjL fs)+2:=by
 refine snoc_ind (P:=fun fs=>fs=[]∨sizeL fs=nodes (conjL fs)+2) (.inl rfl) (fun l x ih=>.inr ?_) fs
 rw [sizeL_snoc,conjL_snoc]
 split
 ·rename_i h
  rw [List.eq_nil_of_length_eq_zero h];simp [sizeL];omega
 ·rename_i h
  rcases ih with e|e
  ·exact absurd (by rw [e];rfl) h
  ·rw [e];simp [nodes,nodess];omega
def uncB (ms:List (List Move)) (p:List Int) (t:Nat) (m:Move):Bool:=!(ms.getD t []).any fun n=>n.act==m.act&&p.getD n.to.toNat 0==p.getD m.to.toNat 0
theorem unc_sig {ms:List (List Move)} {p:List Int} {t:Nat} (ht:t<ms.length) {m:Move} (h:uncB ms p t m=false):Sig ms p t ⟨m.act,p.getD m.to.toNat 0⟩:=by
 unfold uncB at h
 rw [Bool.not_eq_false',getD_lt ht] at h
 obtain ⟨n,hn,h2⟩:=List.any_eq_true.1 h
 rw [Bool.and_eq_true,beq_iff_eq,beq_iff_eq] at h2
 obtain ⟨k,hk,rfl⟩:=List.mem_iff_getElem.1 hn
 exact ⟨ht,k,hk,h2.1.symm,h2.2.symm⟩
theorem unc_exists {ms:List (List Move)} {p:List Int} {s t:Nat} (hs:s<ms.length) (ht:t<ms.length) (e:p.getD s 0=p.getD t 0) (h:¬Akin ms p s t):(∃m∈ms[s],uncB ms p t m=true)∨(∃m∈ms[t],uncB ms p s m=true):=by
 by_cases h1:∃m∈ms[s],uncB ms p t m=true
 ·exact .inl h1
 by_cases h2:∃m∈ms[t],uncB ms p s m=true
 ·exact .inr h2
 refine absurd ⟨e,fun m=>?_⟩ h
 have go:∀{s t} (hs:s<ms.length) (ht:t<ms.length),(¬∃m∈ms[s],uncB ms p t m=true)→Sig ms p s m→Sig ms p t m:=by
  rintro s t hs ht hn ⟨_,k,hk,a1,a2⟩
  have:=unc_sig ht (m:=(ms[s])[k]) (by rw [←Bool.not_eq_true];exact fun hc=>hn ⟨_,List.getElem_mem hk,hc⟩)
  rw [←a1,←a2,mv_eta] at this
  exact this
 exact ⟨go ht hs h2,go hs ht h1⟩
def othersL (ms:List (List Move)) (t:Nat) (a:Int):List Int:=((ms.getD t []).filter fun n=>n.act==a).map Move.to
theorem unc_apart {ms:List (List Move)} {p:List Int} {t:Nat} {m:Move} (h:uncB ms p t m=true):∀v∈othersL ms t m.act,p.getD v.toNat 0≠p.getD m.to.toNat 0:=by
 intro v hv e
 obtain ⟨n,hn,rfl⟩:=List.mem_map.1 hv
 obtain ⟨hn1,hn2⟩:=List.mem_filter.1 hn
 unfold uncB at h
 rw [Bool.not_eq_true',List.any_eq_false] at h
 refine h n hn1 ?_
 rw [Bool.and_eq_true]
 exact ⟨hn2,by rw [beq_iff_eq];exact e⟩
theorem hold_apart {ms:List (List Move)} (hm:Leads ms) {s t:Nat} (hs:s<ms.length) (ht:t<ms.length) {m:Move} (hmem:m∈ms[s]) (G:Int→Tree) (h1:∀v∈othersL ms t m.act,hold ms (G v) m.to.toNat=true) (h2:∀v∈othersL ms t m.act,hold ms (G v) v.toNat=false):
  hold ms (.mk 3 m.act [conjL ((othersL ms t m.act).map G)]) s=true∧hold ms (.mk 3 m.act [conjL ((othersL ms t m.act).map G)]) t=false:=by
 have hto:∀{s:Nat} (hs:s<ms.length) {m:Move},m∈ms[s]→m.to.toNat<ms.length:=by
  intro s hs m hm'
  obtain ⟨k,hk,rfl⟩:=List.mem_iff_getElem.1 hm'
  have:=(hm.2 _ hs).2 k hk;omega
 constructor
 ·rw [hold_may _ _ _ hs]
  refine List.any_eq_true.2 ⟨m,hmem,?_⟩
  rw [beq_self_eq_true,Bool.true_and,hold_conj (hto hs hmem),List.all_map,List.all_eq_true]
  exact fun v hv=>h1 v hv
 ·rw [hold_may _ _ _ ht,List.any_eq_false]
  intro n hn hc
  rw [Bool.and_eq_true,hold_conj (hto ht hn),List.all_map,List.all_eq_true] at hc
  have hv:n.to∈othersL ms t m.act:=by
   unfold othersL
   rw [getD_lt ht]
   exact List.mem_map.2 ⟨n,List.mem_filter.2 ⟨hn,hc.1⟩,rfl⟩
  have:=hc.2 _ hv
  have h3:=h2 _ hv
  simp only [Function.comp] at this
  rw [this] at h3;cases h3
end Go.Proofs.YtfdcjocallblcaaGreatDoor.Ev
namespace Go.Proofs.YtfdcjocallblcaaGreatDoor.Ev
open Go
set_option linter.unusedVariables false
set_option linter.unusedSimpArgs false
def RoundsOk (ms:List (List Move)) (list:List (List Int)):Prop:=list.length≤4000∧∀(r:Nat) (h:r<list.length),(list[r]).length=ms.length
def RD (list:List (List Int)) (s t r:Nat):Prop:=r<list.length∧(list.getD r []).getD s 0≠(list.getD r []).getD t 0∧∀r',r'<r→(list.getD r' []).getD s 0=(list.getD r' []).getD t 0
theorem mk_parts (t:Tree):Tree.mk t.op t.n t.parts=t:=by cases t;rfl
theorem shape_tok:∀(n:Nat) (t:Tree),nodes t≤n→shape t=true→TOk t:=by
 intro n
 induction n with
 |zero=>intro t h;have:=nodes_pos t;omega
 |succ n ih=>
  intro t hn hs
  obtain ⟨o,a,ps⟩:=t
  have hg:good1 o a ps.length=true:=by simp only [shape,Bool.and_eq_true] at hs;exact hs.1
  unfold good1 at hg
  have hg:=of_decide_eq_true hg
  have hml:maxLen=9223372036854775807:=rfl
  have har:ar o≤2:=by unfold ar;split<;>(try split)<;>omega
  refine ⟨by omega,by omega,by omega,TOks_mk fun p hp=>?_⟩
  rcases fcases hs with ⟨-,rfl⟩|⟨-,x,rfl,hx⟩|⟨-,x,y,rfl,hx,hy⟩|⟨-,-,-,x,rfl,hx⟩
  ·cases hp
  ·obtain rfl:=List.mem_singleton.1 hp
   exact ih p (by simp only [nodes,nodess] at hn;omega) hx
  ·simp only [nodes,nodess] at hn
   rcases List.mem_cons.1 hp with rfl|hp
   ·exact ih p (by omega) hx
   ·obtain rfl:=List.mem_singleton.1 hp
    exact ih p (by omega) hy
  ·obtain rfl:=List.mem_singleton.1 hp
   exact ih p (by simp only [nodes,nodess] at hn;omega) hx
section
variable {R : Type} (L N : Nat) (self : Graph → List (List Int) → Int → Int → Option (Tree × Bool))
theorem ti0 (K:List (List Int)→Int→Int→Int→List (List Move)→Int→Int→Option R) (ms:List (List Move)) (list:List (List Int)) (hr:RoundsOk ms list) (s t:Nat) (hs:s<ms.length) (ht:t<ms.length) (a b:Int) {r:Nat} (hd:RD list s t r):
  ∀(n i:Nat),i≤r→r-i<n→f31.l0 L N self K n list (s:Int) (t:Int) (i:Int) ms a b=K list (s:Int) (t:Int) (r:Int) ms a b:=by
 intro n
 induction n with
 |zero=>intro i _ h;omega
 |succ n ih=>
  intro i hi hn
  have hl:=hr.1
  have hrl:=hd.1
  have hil:i<list.length:=by omega
  have hlen:=hr.2 i hil
  have hsl:s<(list[i]).length:=by omega
  have htl:t<(list[i]).length:=by omega
  show f31.s0 L N self K (f31.l0 L N self K n) list (s:Int) (t:Int) (i:Int) ms a b=_
  unfold f31.s0 f31.s0'
  simp only [le0,lt_cast hil,Bool.and_true,cond_true,Int.toNat_natCast,at_lt hil,lt_cast hsl,lt_cast htl,atD]
  by_cases e:i<r
  ·have h1:=hd.2.2 i e
   rw [getD_lt hil] at h1
   rw [h1,beq_self_eq_true,cond_true,wi_nat (by omega)]
   exact ih (i+1) (by omega) (by omega)
  ·obtain rfl:i=r:=by omega
   have h1:=hd.2.1
   rw [getD_lt hil] at h1
   have h2:((list[i]).getD s 0==(list[i]).getD t 0)=false:=by rw [beq_eq_false_iff_ne];exact h1
   rw [h2,cond_false]
theorem ti2 (K:List (List Int)→Int→Int→List Int→Bool→List Move→Int→Int→List (List Move)→Int→Int→Int→Int→List Int→Option R) (list:List (List Int)) (s t:Int) (cls:List Int) (row:List Move) (rl idx:Int) (trow:List Move) (ms:List (List Move)) (a b act:Int) (to:Nat)
  (htl:trow.length≤1048576) (hc:cls.length=ms.length) (hto:to<ms.length) (hrow:∀m∈trow,0≤m.to∧m.to<(ms.length:Int)):
  ∀(n j:Nat) (met:Bool) (others:List Int),j≤trow.length→trow.length-j<n→others.length≤j→
   f31.l2 L N self K n list s t cls met row rl idx trow (trow.length:Int) (j:Int) ms a b act (to:Int) others
    =K list s t cls (met||(trow.drop j).any fun x=>x.act==act&&cls.getD x.to.toNat 0==cls.getD to 0) row rl idx ms a b act (to:Int) (others++((trow.drop j).filter fun x=>x.act==act).map Move.to):=by
 have hlim:=lim_eq
 intro n
 induction n with
 |zero=>intro j met others _ h;omega
 |succ n ih=>
  intro j met others hj hn ho
  show f31.s2 L N self K (f31.l2 L N self K n) list s t cls met row rl idx trow (trow.length:Int) (j:Int) ms a b act (to:Int) others=_
  unfold f31.s2 f31.s2'
  by_cases hlt:j<trow.length
  ·obtain ⟨h0,h1⟩:=hrow _ (List.getElem_mem hlt)
   obtain ⟨u,hu⟩:=Int.eq_ofNat_of_zero_le h0
   have huc:u<cls.length:=by omega
   have htc:to<cls.length:=by omega
   have hle:decide (others.length+([(u:Int)]:List Int).length≤lim)=true:=dt (by simp only [List.length_cons,List.length_nil];omega)
   rw [List.drop_eq_getElem_cons hlt]
   simp only [lt_cast hlt,le0,Bool.and_true,cond_true,Int.toNat_natCast,at_lt hlt,hu]
   cases hb:((trow[j]).act==act) with
   |false=>
    rw [cond_false,wi_nat (by omega),ih (j+1) met others (by omega) (by omega) (by omega)]
    simp only [List.any_cons,hb,Bool.false_and,Bool.false_or,List.filter_cons]
    rfl
   |true=>
    rw [cond_true,hle,cond_true]
    cases met with
    |true=>
     rw [cond_true,wi_nat (by omega),ih (j+1) true _ (by omega) (by omega) (by simp;omega)]
     simp only [Bool.true_or,List.filter_cons,hb,if_true,List.map_cons,hu,List.append_assoc,List.cons_append,List.nil_append]
    |false=>
     rw [cond_false]
     simp only [lt_cast huc,lt_cast htc,le0,Bool.and_true,cond_true,Int.toNat_natCast,atD]
     rw [wi_nat (by omega),ih (j+1) _ _ (by omega) (by omega) (by simp;omega)]
     simp only [Bool.false_or,List.any_cons,hb,Bool.true_and,hu,Int.toNat_natCast,List.filter_cons,if_true,List.map_cons,List.append_assoc,List.cons_append,List.nil_append]
  ·rw [ge_cast hlt,cond_false,List.drop_eq_nil_of_le (by omega)]
   simp only [List.any_nil,Bool.or_false,List.filter_nil,List.map_nil,List.append_nil]
theorem sizeL_take {α:Type} (f:α→Tree) (l:List α) (k:Nat):sizeL ((l.take k).map f)≤sizeL (l.map f):=by
 have h:l.map f=(l.take k).map f++(l.drop k).map f:=by rw [←List.map_append,List.take_append_drop]
 rw [h]
 unfold sizeL
 rw [List.map_append,List.sum_append]
 omega
theorem ti3 (hL:20000<L) (hN:20000≤N) (Ke:Int→Int→Int→Int→Int→Int→List Tree→Option R) (Kr:Bool→Int→Int→List Tree→Int→Int→Int→Int→List Tree→Option R) (ms:List (List Move)) (list:List (List Int)) (a b act to:Int) (others:List Int) (hol:others.length≤1048576) (G:Int→Tree)
  (hG:∀v∈others,∃x c,self ⟨ms⟩ list to v=some (x,c)∧(c=true↔nodes (G v)≤60)∧(c=true→x=G v)∧nodes x≤10000):
  ∀(n k:Nat),k≤others.length→others.length-k<n→sizeL ((others.take k).map G)≤62→
   (sizeL (others.map G)≤62∧f31.l3 L N self Ke Kr n list (sizeL ((others.take k).map G):Int) (others.length:Int) (k:Int) ms a b act to (conjL ((others.take k).map G)).op (conjL ((others.take k).map G)).n (conjL ((others.take k).map G)).parts others=Ke a b act to (conjL (others.map G)).op (conjL (others.map G)).n (conjL (others.map G)).parts)∨
   (62<sizeL (others.map G)∧∃z1 z2 z3 z4 z5,f31.l3 L N self Ke Kr n list (sizeL ((others.take k).map G):Int) (others.length:Int) (k:Int) ms a b act to (conjL ((others.take k).map G)).op (conjL ((others.take k).map G)).n (conjL ((others.take k).map G)).parts others=Kr false 0 0 [] z1 z2 z3 z4 z5):=by
 have hlim:=lim_eq
 intro n
 induction n with
 |zero=>intro k _ h;omega
 |succ n ih=>
  intro k hk hn hsz
  have hu:f31.l3 L N self Ke Kr (n+1) list (sizeL ((others.take k).map G):Int) (others.length:Int) (k:Int) ms a b act to (conjL ((others.take k).map G)).op (conjL ((others.take k).map G)).n (conjL ((others.take k).map G)).parts others
    =f31.s3 L N self Ke Kr (f31.l3 L N self Ke Kr n) list (sizeL ((others.take k).map G):Int) (others.length:Int) (k:Int) ms a b act to (conjL ((others.take k).map G)).op (conjL ((others.take k).map G)).n (conjL ((others.take k).map G)).parts others:=rfl
  rw [hu]
  unfold f31.s3 f31.s3'
  by_cases hlt:k<others.length
  ·obtain ⟨x,c,e1,e2,e3,e4⟩:=hG _ (List.getElem_mem hlt)
   obtain ⟨r,r1,r2,r3⟩:=fnodes_ok L N N x 60 (by omega) (by omega) (by omega) (by omega) (by omega)
   have hnp:=nodes_pos x
   have htk:(others.take (k+1)).map G=(others.take k).map G++[G others[k]]:=by rw [List.take_succ_eq_append_getElem hlt,List.map_append];rfl
   have hs1:sizeL ((others.take (k+1)).map G)=sizeL ((others.take k).map G)+nodes (G others[k])+1:=by rw [htk,sizeL_snoc]
   have hs2:=sizeL_take G others (k+1)
   have hs0:1≤sizeL ((others.take k).map G):=by unfold sizeL;omega
   simp only [lt_cast hlt,le0,Bool.and_true,cond_true,Int.toNat_natCast,at_lt hlt,e1,Option.bind_some,mk_parts,r1]
   cases hc:c with
   |false=>
    right
    have:¬nodes (G others[k])≤60:=fun h=>by rw [e2.2 h] at hc;cases hc
    rw [Bool.not_false,cond_true]
    exact ⟨by omega,_,_,_,_,_,rfl⟩
   |true=>
    have hG60:=e2.1 hc
    have hx:=e3 hc
    subst hx
    have hr:=r2 (by omega)
    have hw:wi ((sizeL ((others.take k).map G):Int)+wi (r+1))=(sizeL ((others.take (k+1)).map G):Int):=by
     rw [wi_id (n:=r+1) (by omega) (by omega),wi_id (by omega) (by omega)];omega
    rw [Bool.not_true,cond_false,hw]
    by_cases hgt:sizeL ((others.take (k+1)).map G)≤62
    ·rw [df (show ¬((sizeL ((others.take (k+1)).map G):Nat):Int)>62 by omega),cond_false]
     have hcj:=conjL_snoc ((others.take k).map G) (G others[k])
     rw [←htk] at hcj
     have hkl:((others.take k).map G).length=k:=by rw [List.length_map,List.length_take];omega
     rw [hkl] at hcj
     by_cases hk0:k=0
     ·subst hk0
      rw [if_pos rfl] at hcj
      have h0:(((0:Nat):Int)==0)=true:=rfl
      rw [h0,cond_true,wi_nat (by omega),←hcj]
      exact ih (0+1) (by omega) (by omega) hgt
     ·rw [if_neg hk0] at hcj
      have h0:((k:Int)==0)=false:=by rw [beq_eq_false_iff_ne];omega
      rw [h0,cond_false,wi_nat (by omega),←hcj]
      exact ih (k+1) (by omega) (by omega) hgt
    ·right
     rw [dt (show ((sizeL ((others.take (k+1)).map G):Nat):Int)>62 by omega),cond_true]
     exact ⟨by omega,_,_,_,_,_,rfl⟩
  ·left
   rw [List.take_of_length_le (by omega)] at hsz⊢
   rw [ge_cast hlt,cond_false]
   exact ⟨hsz,rfl⟩
end
end Go.Proofs.YtfdcjocallblcaaGreatDoor.Ev
namespace Go.Proofs.YtfdcjocallblcaaGreatDoor.Ev
open Go
set_option linter.unusedVariables false
set_option linter.unusedSimpArgs false
end Go.Proofs.YtfdcjocallblcaaGreatDoor.Ev
namespace Go.Proofs.YtfdcjocallblcaaGreatDoor.Ev
open Go
set_option linter.unusedVariables false
set_option linter.unusedSimpArgs false
theorem Chain.lens {E:List Int→Nat→Nat→Prop} {n:Nat} {pre:List (List Int)} {p:List Int} (h:Chain E n pre p):∀x∈pre++[p],x.length=n:=by
 induction h with
 |zero=>intro x hx;rw [List.nil_append] at hx;obtain rfl:=List.mem_singleton.1 hx;simp
 |snoc pre p q h hq ih=>
  intro x hx
  rcases List.mem_append.1 hx with hx|hx
  ·exact ih x hx
  ·obtain rfl:=List.mem_singleton.1 hx;exact hq.1
theorem RD.symm {list:List (List Int)} {s t r:Nat} (h:RD list s t r):RD list t s r:=⟨h.1,fun e=>h.2.1 e.symm,fun r' hr'=>(h.2.2 r' hr').symm⟩
theorem RD.exists {list:List (List Int)} {s t:Nat}:∀(r0:Nat),r0<list.length→(list.getD r0 []).getD s 0≠(list.getD r0 []).getD t 0→∃r,r≤r0∧RD list s t r:=by
 intro r0
 induction r0 using Nat.strongRecOn with
 |_ r0 ih=>
  intro h1 h2
  by_cases h:∃r',r'<r0∧(list.getD r' []).getD s 0≠(list.getD r' []).getD t 0
  ·obtain ⟨r',h3,h4⟩:=h
   obtain ⟨r,h5,h6⟩:=ih r' h3 (by omega) h4
   exact ⟨r,by omega,h6⟩
  ·exact ⟨r0,Nat.le_refl _,h1,h2,fun r' hr'=>Classical.byContradiction fun e=>h ⟨r',hr',e⟩⟩
theorem find_cons_drop {α:Type} {p:α→Bool} {l:List α} {i:Nat} (h:i<l.length):(l.drop i).find? p=if p l[i]=true then some l[i] else (l.drop (i+1)).find? p:=by
 rw [List.drop_eq_getElem_cons h,List.find?_cons]
 split
 ·rename_i hp;rw [if_pos hp]
 ·rename_i hp;rw [if_neg (by rw [hp];simp)]
end Go.Proofs.YtfdcjocallblcaaGreatDoor.Ev
namespace Go.Proofs.YtfdcjocallblcaaGreatDoor.Ev
open Go
set_option linter.unusedVariables false
set_option linter.unusedSimpArgs false
section
variable {R : Type} (L N : Nat) (self : Graph → List (List Int) → Int → Int → Option (Tree × Bool))
theorem ti1 (hL:2000000<L) (Ke:List (List Int)→Int→Int→List (List Move)→Int→Int→Option R) (Kr:Bool→Int→Int→List Tree→Option R) (ms:List (List Move)) (hm:Leads ms) (list:List (List Int)) (s t:Nat) (hs:s<ms.length) (ht:t<ms.length) (cls:List Int) (hc:cls.length=ms.length) (a b:Int) (Fin:Move→Option R)
  (hF:∀m∈ms[s],uncB ms cls t m=true→∀rec1,f31.l3 L N self (fun z91 z92 z93 z94 z95 z96 z97=>f31.p3_e6 L N self Ke Kr rec1 z91 z92 z93 z94 z95 z96 z97) (fun z118 z119 z120 z121 z122 z123 z124 z125 z126=>f31.p3_r L N self Ke Kr rec1 z118 z119 z120 z121 z122 z123 z124 z125 z126) L list 1 ((othersL ms t m.act).length:Int) 0 ms a b m.act m.to 0 0 [] (othersL ms t m.act)=Fin m):
  ∀(n i:Nat),i≤(ms[s]).length→(ms[s]).length-i<n→f31.l1 L N self Ke Kr n list (s:Int) (t:Int) cls ms[s] ((ms[s]).length:Int) (i:Int) ms a b=match ((ms[s]).drop i).find? (uncB ms cls t) with
   |some m=>Fin m
   |none=>Ke list (s:Int) (t:Int) ms a b:=by
 have hrs:=(hm.2 s hs).1
 have hrt:=(hm.2 t ht).1
 intro n
 induction n with
 |zero=>intro i _ h;omega
 |succ n ih=>
  intro i hi hn
  show f31.s1 L N self Ke Kr (f31.l1 L N self Ke Kr n) list (s:Int) (t:Int) cls ms[s] ((ms[s]).length:Int) (i:Int) ms a b=_
  unfold f31.s1 f31.s1'
  by_cases hlt:i<(ms[s]).length
  ·obtain ⟨u,hu,hul⟩:=hm.nat hs hlt
   have h2:=ti2 L N self (fun z47 z48 z49 z50 z51 z52 z53 z54 z55 z56 z57 z58 z59 z60=>f31.p2_e4 L N self Ke Kr (f31.l1 L N self Ke Kr n) z47 z48 z49 z50 z51 z52 z53 z54 z55 z56 z57 z58 z59 z60) list (s:Int) (t:Int) cls ms[s] ((ms[s]).length:Int) (i:Int) ms[t] ms a b (ms[s])[i].act u hrt hc hul (fun m hm'=>by
    obtain ⟨k,hk,rfl⟩:=List.mem_iff_getElem.1 hm'
    exact (hm.2 t ht).2 k hk) L 0 false [] (by omega) (by omega) (by simp)
   rw [List.drop_zero,Bool.false_or,List.nil_append] at h2
   have h2':f31.l2 L N self (fun z47 z48 z49 z50 z51 z52 z53 z54 z55 z56 z57 z58 z59 z60=>f31.p2_e4 L N self Ke Kr (f31.l1 L N self Ke Kr n) z47 z48 z49 z50 z51 z52 z53 z54 z55 z56 z57 z58 z59 z60) L list (s:Int) (t:Int) cls false ms[s] ((ms[s]).length:Int) (i:Int) ms[t] ((ms[t]).length:Int) (0:Int) ms a b (ms[s])[i].act (u:Int) []=_:=h2
   simp only [lt_cast hlt,le0,lt_cast ht,Bool.and_true,cond_true,Int.toNat_natCast,at_lt hlt,at_lt ht,hu,h2']
   have hun:((ms[t]).any fun x=>x.act==(ms[s])[i].act&&cls.getD x.to.toNat 0==cls.getD u 0)=!uncB ms cls t (ms[s])[i]:=by
    unfold uncB;rw [getD_lt ht,hu,Int.toNat_natCast,Bool.not_not]
   have hot:(((ms[t]).filter fun x=>x.act==(ms[s])[i].act).map Move.to)=othersL ms t (ms[s])[i].act:=by unfold othersL;rw [getD_lt ht]
   rw [hun,hot]
   unfold f31.p2_e4 f31.p2_e4'
   rw [find_cons_drop hlt]
   cases hb:uncB ms cls t (ms[s])[i] with
   |true=>
    rw [Bool.not_true,cond_false,if_pos rfl]
    have:=hF _ (List.getElem_mem hlt) hb (f31.l1 L N self Ke Kr n)
    rw [hu] at this
    exact this
   |false=>
    rw [Bool.not_false,cond_true,if_neg (by simp),wi_nat (by omega)]
    exact ih (i+1) (by omega) (by omega)
  ·rw [ge_cast hlt,cond_false,List.drop_eq_nil_of_le (by omega),List.find?_nil]
end
theorem tells_one (L N:Nat) (hL:2000000<L) (hN:20000≤N) (ms:List (List Move)) (hm:Leads ms) (hact:∀(i:Nat) (hi:i<ms.length),∀m∈ms[i],-4≤m.act∧m.act≤4) (pre:List (List Int)) (q:List Int) (hc:Chain (Akin ms) ms.length pre q) (hp:pre.length≤3600):
  ∀(m s t r:Nat),s<ms.length→t<ms.length→RD (pre++[q]) s t r→2*r+(if (ms.getD s []).any (uncB ms ((pre++[q]).getD (r-1) []) t)=true then 0 else 1)≤m→
   ∃F,shape F=true∧depth F≤r∧hold ms F s=true∧hold ms F t=false∧
    (∃x c,f31 L N m ⟨ms⟩ (pre++[q]) (s:Int) (t:Int)=some (x,c)∧(c=true↔nodes F≤60)∧(c=true→x=F)∧nodes x≤100+(2*r+(if (ms.getD s []).any (uncB ms ((pre++[q]).getD (r-1) []) t)=true then 0 else 1))):=by
 have hn60:=hm.1
 have hlen:(pre++[q]).length=pre.length+1:=by simp
 have hrok:RoundsOk ms (pre++[q]):=⟨by omega,fun r h=>hc.lens _ (List.getElem_mem h)⟩
 intro m
 induction m with
 |zero=>
  intro s t r hs ht hd h
  have hr0:r≠0:=fun e=>by
   subst e
   have:=hd.2.1
   rw [hc.first,getD_lt (by simpa using hs),getD_lt (by simpa using ht),List.getElem_replicate,List.getElem_replicate] at this
   exact this rfl
  omega
 |succ m ih=>
  intro s t r hs ht hd hmu
  have hr0:r≠0:=fun e=>by
   subst e
   have:=hd.2.1
   rw [hc.first,getD_lt (by simpa using hs),getD_lt (by simpa using ht),List.getElem_replicate,List.getElem_replicate] at this
   exact this rfl
  obtain ⟨r1,rfl⟩:∃r1,r=r1+1:=⟨r-1,by omega⟩
  have hrl:=hd.1
  have hr1l:r1<(pre++[q]).length:=by omega
  rw [show r1+1-1=r1 by omega] at hmu⊢
  have hcls:((pre++[q]).getD r1 []).length=ms.length:=by rw [getD_lt hr1l];exact hrok.2 r1 hr1l
  have hnext:=hc.next r1 (by omega)
  have hsame:=hd.2.2 r1 (by omega)
  have hnak:¬Akin ms ((pre++[q]).getD r1 []) s t:=fun h=>hd.2.1 ((hnext.same ((akinEq ms).symm _) ((akinEq ms).trans _) hs ht).2 h)
  have hto:∀{s:Nat} (hs:s<ms.length) {x:Move},x∈ms[s]→∃u:Nat,x.to=(u:Int)∧u<ms.length:=by
   intro s hs x hx
   obtain ⟨k,hk,rfl⟩:=List.mem_iff_getElem.1 hx
   exact hm.nat hs hk
  have hch:∀mv:Move×Int,∃F,(mv.1∈ms[s]∧uncB ms ((pre++[q]).getD r1 []) t mv.1=true∧mv.2∈othersL ms t mv.1.act)→
    (shape F=true∧depth F≤r1∧hold ms F mv.1.to.toNat=true∧hold ms F mv.2.toNat=false∧
    (∃x c,f31 L N m ⟨ms⟩ (pre++[q]) mv.1.to mv.2=some (x,c)∧(c=true↔nodes F≤60)∧(c=true→x=F)∧nodes x≤100+(2*r1+1))):=by
   rintro ⟨x,v⟩
   by_cases h:x∈ms[s]∧uncB ms ((pre++[q]).getD r1 []) t x=true∧v∈othersL ms t x.act
   ·obtain ⟨h1,h2,h3⟩:=h
    have hap:=unc_apart h2 v h3
    obtain ⟨u,hu,hul⟩:=hto hs h1
    obtain ⟨y,hy,hyv⟩:=List.mem_map.1 h3
    rw [getD_lt ht] at hy
    obtain ⟨w,hw,hwl⟩:=hto ht (List.mem_filter.1 hy).1
    rw [hyv] at hw
    rw [hw,hu,Int.toNat_natCast,Int.toNat_natCast] at hap
    obtain ⟨r',hr',hd'⟩:=RD.exists r1 hr1l (fun e=>hap e.symm)
    obtain ⟨F,f1,f2,f3,f4,x1,c1,g1,g2,g3,g4⟩:=ih u w r' hul hwl hd' (by split<;>omega)
    have hb:(2*r'+(if (ms.getD u []).any (uncB ms ((pre++[q]).getD (r'-1) []) w)=true then 0 else 1))≤2*r1+1:=by split<;>omega
    refine ⟨F,fun _=>?_⟩
    rw [hu,hw,Int.toNat_natCast,Int.toNat_natCast]
    exact ⟨f1,by omega,f3,f4,x1,c1,g1,g2,g3,by omega⟩
   ·exact ⟨.mk 0 0 [],fun h'=>absurd h' h⟩
  obtain ⟨G0,hG0⟩:=Classical.axiomOfChoice hch
  generalize hG1:(fun (x:Move) (v:Int)=>G0 (x,v))=G
  have hG:∀x∈ms[s],uncB ms ((pre++[q]).getD r1 []) t x=true→∀v∈othersL ms t x.act,(shape (G x v)=true∧depth (G x v)≤r1∧hold ms (G x v) x.to.toNat=true∧hold ms (G x v) v.toNat=false∧
    (∃y c,f31 L N m ⟨ms⟩ (pre++[q]) x.to v=some (y,c)∧(c=true↔nodes (G x v)≤60)∧(c=true→y=G x v)∧nodes y≤100+(2*r1+1))):=fun x hx hu v hv=>by
   rw [←hG1];exact hG0 (x,v) ⟨hx,hu,hv⟩
  have hol:∀a,(othersL ms t a).length≤1048576:=fun a=>by
   unfold othersL
   rw [getD_lt ht,List.length_map]
   exact Nat.le_trans (List.length_filter_le _ _) (hm.2 t ht).1
  have hwr:wi (((r1+1:Nat):Int)-1)=(r1:Int):=by rw [wi_id (by omega) (by omega)];omega
  generalize hFin:(fun x:Move=>Tree.mk 3 x.act [conjL ((othersL ms t x.act).map (G x))])=Fm
  have himpl:f31 L N (m+1) ⟨ms⟩ (pre++[q]) (s:Int) (t:Int)=match (ms[s]).find? (uncB ms ((pre++[q]).getD r1 []) t) with
    |some x=>(if sizeL ((othersL ms t x.act).map (G x))≤62 then some (Fm x,decide (nodes (Fm x)≤60)) else some (.mk 0 0 [],false))
    |none=>f31.p1_e2 L N (f31 L N m) (fun a0 a1=>some (a0,a1)) (pre++[q]) (s:Int) (t:Int) ms 0 0:=by
   show f31.l0 L N (f31 L N m) (fun z7 z8 z9 z10 z11 z12 z13=>f31.p0_e0 L N (f31 L N m) (fun a0 a1=>some (a0,a1)) z7 z8 z9 z10 z11 z12 z13) L (pre++[q]) (s:Int) (t:Int) ((0:Nat):Int) ms 0 0=_
   rw [ti0 L N (f31 L N m) _ ms (pre++[q]) hrok s t hs ht 0 0 hd L 0 (by omega) (by omega)]
   unfold f31.p0_e0 f31.p0_e0'
   simp only [hwr,le0,lt_cast hr1l,lt_cast hs,Bool.and_true,cond_true,Int.toNat_natCast,atD,at_lt hs]
   have h1:=ti1 L N (f31 L N m) hL (fun z24 z25 z26 z27 z28 z29=>f31.p1_e2 L N (f31 L N m) (fun a0 a1=>some (a0,a1)) z24 z25 z26 z27 z28 z29) (fun z157 z158 z159 z160=>f31.p1_r L N (f31 L N m) (fun a0 a1=>some (a0,a1)) z157 z158 z159 z160) ms hm (pre++[q]) s t hs ht ((pre++[q]).getD r1 []) hcls 0 0
    (fun x=>if sizeL ((othersL ms t x.act).map (G x))≤62 then some (Fm x,decide (nodes (Fm x)≤60)) else some (.mk 0 0 [],false)) (fun x hx hu rec1=>by
     have h3:=ti3 L N (f31 L N m) (by omega) (by omega) (fun z91 z92 z93 z94 z95 z96 z97=>f31.p3_e6 L N (f31 L N m) (fun z24 z25 z26 z27 z28 z29=>f31.p1_e2 L N (f31 L N m) (fun a0 a1=>some (a0,a1)) z24 z25 z26 z27 z28 z29) (fun z157 z158 z159 z160=>f31.p1_r L N (f31 L N m) (fun a0 a1=>some (a0,a1)) z157 z158 z159 z160) rec1 z91 z92 z93 z94 z95 z96 z97) (fun z118 z119 z120 z121 z122 z123 z124 z125 z126=>f31.p3_r L N (f31 L N m) (fun z24 z25 z26 z27 z28 z29=>f31.p1_e2 L N (f31 L N m) (fun a0 a1=>some (a0,a1)) z24 z25 z26 z27 z28 z29) (fun z157 z158 z159 z160=>f31.p1_r L N (f31 L N m) (fun a0 a1=>some (a0,a1)) z157 z158 z159 z160) rec1 z118 z119 z120 z121 z122 z123 z124 z125 z126) ms (pre++[q]) 0 0 x.act x.to (othersL ms t x.act) (hol x.act) (G x) (fun v hv=>by
      obtain ⟨-,-,-,-,y,c,e1,e2,e3,e4⟩:=hG x hx hu v hv
      exact ⟨y,c,e1,e2,e3,by omega⟩) L 0 (by omega) (by have:=hol x.act;omega) (by rw [List.take_zero];simp [sizeL])
     rw [List.take_zero] at h3
     have h3':=h3
     rcases h3 with ⟨e1,e2⟩|⟨e1,z1,z2,z3,z4,z5,e2⟩
     ·rw [if_pos e1]
      refine (show _=_ from e2).trans ?_
      unfold f31.p3_e6 f31.p3_e6'
      rw [mk_parts,mk_parts]
      have hFx:Fm x=Tree.mk 3 x.act [conjL ((othersL ms t x.act).map (G x))]:=by rw [←hFin]
      have hnF:nodes (Fm x)=nodes (conjL ((othersL ms t x.act).map (G x)))+1:=by rw [hFx];simp only [nodes,nodess];omega
      have hn62:nodes (Fm x)≤100:=by
       rcases sizeL_conj ((othersL ms t x.act).map (G x)) with e|e
       ·rw [e] at hnF;simp [conjL,nodes,nodess] at hnF;omega
       ·omega
      rw [←hFx]
      obtain ⟨rr,g1,g2,g3⟩:=fnodes_ok L N N (Fm x) 60 (by omega) (by omega) (by have:=lim_eq;omega) (by omega) (by omega)
      rw [g1,Option.bind_some]
      have hdec:decide (rr≤60)=decide (nodes (Fm x)≤60):=by
       by_cases h:nodes (Fm x)≤60
       ·rw [dt h,g2 (by omega)];exact dt (by omega)
       ·rw [df h];exact df (by have:=g3 (by omega);omega)
      rw [hdec]
      show some (Tree.mk (Fm x).op (Fm x).n (Fm x).parts,decide (nodes (Fm x)≤60))=_
      rw [mk_parts]
     ·rw [if_neg (by omega)]
      exact (show _=_ from e2).trans rfl) L 0 (by omega) (by have:=(hm.2 s hs).1;omega)
   rw [List.drop_zero] at h1
   rw [getD_lt hs]
   exact h1
  cases hfind:(ms[s]).find? (uncB ms ((pre++[q]).getD r1 []) t) with
  |some x=>
   rw [hfind] at himpl
   have hx:=List.mem_of_find?_eq_some hfind
   have hu:=List.find?_some hfind
   have hFx:Fm x=Tree.mk 3 x.act [conjL ((othersL ms t x.act).map (G x))]:=by rw [←hFin]
   have hnF:nodes (Fm x)=nodes (conjL ((othersL ms t x.act).map (G x)))+1:=by rw [hFx];simp only [nodes,nodess];omega
   have hap:=hold_apart hm hs ht hx (G x) (fun v hv=>(hG x hx hu v hv).2.2.1) (fun v hv=>(hG x hx hu v hv).2.2.2.1)
   rw [←hFx] at hap
   refine ⟨Fm x,?_,?_,hap.1,hap.2,?_⟩
   ·rw [hFx]
    refine shape3 (hact s hs x hx) (shape_conj _ fun f hf=>?_)
    obtain ⟨v,hv,rfl⟩:=List.mem_map.1 hf
    exact (hG x hx hu v hv).1
   ·rw [hFx]
    have:=depth_conj (d:=r1) ((othersL ms t x.act).map (G x)) fun f hf=>by
     obtain ⟨v,hv,rfl⟩:=List.mem_map.1 hf
     exact (hG x hx hu v hv).2.1
    simp only [depth,depths]
    simp;omega
   ·dsimp only at himpl
    rw [himpl]
    rcases sizeL_conj ((othersL ms t x.act).map (G x)) with e|e
    ·have h0:sizeL ((othersL ms t x.act).map (G x))≤62:=by rw [e];simp [sizeL]
     have h1:nodes (Fm x)≤60:=by rw [hnF,e];simp [conjL,nodes,nodess]
     rw [if_pos h0]
     exact ⟨_,_,rfl,by rw [decide_eq_true_eq],fun _=>rfl,by omega⟩
    ·by_cases h62:sizeL ((othersL ms t x.act).map (G x))≤62
     ·rw [if_pos h62]
      exact ⟨_,_,rfl,by rw [decide_eq_true_eq],fun _=>rfl,by omega⟩
     ·rw [if_neg h62]
      exact ⟨_,_,rfl,⟨fun h=>(by cases h),fun h=>by omega⟩,fun h=>(by cases h),by simp [nodes,nodess];omega⟩
  |none=>
   rw [hfind] at himpl
   dsimp only at himpl
   have hnone:(ms[s]).any (uncB ms ((pre++[q]).getD r1 []) t)=false:=by
    rw [List.any_eq_false];exact fun x hx=>by have:=List.find?_eq_none.1 hfind x hx;exact this
   rw [getD_lt hs,hnone,if_neg (by simp)] at hmu
   have hany:(ms[t]).any (uncB ms ((pre++[q]).getD r1 []) s)=true:=by
    rcases unc_exists hs ht hsame hnak with ⟨x,hx,hxu⟩|⟨x,hx,hxu⟩
    ·have:=List.any_eq_false.1 hnone x hx
     exact absurd hxu this
    ·exact List.any_eq_true.2 ⟨x,hx,hxu⟩
   rw [getD_lt hs,hnone,if_neg (by simp)]
   obtain ⟨F,f1,f2,f3,f4,x,c,e1,e2,e3,e4⟩:=ih t s (r1+1) ht hs hd.symm (by rw [show r1+1-1=r1 by omega,getD_lt ht,hany,if_pos rfl];omega)
   rw [show r1+1-1=r1 by omega,getD_lt ht,hany,if_pos rfl] at e4
   have hnN:nodes (Tree.mk 1 0 [F])=nodes F+1:=by simp only [nodes,nodess];omega
   have hnx:nodes (Tree.mk 1 0 [x])=nodes x+1:=by simp only [nodes,nodess];omega
   refine ⟨.mk 1 0 [F],shape1 f1,?_,by rw [hold_not _ _ _ hs,f4];rfl,by rw [hold_not _ _ _ ht,f3];rfl,?_⟩
   ·simp only [depth,depths];simp;exact f2
   ·rw [himpl]
    unfold f31.p1_e2 f31.p1_e2'
    rw [e1,Option.bind_some]
    simp only [mk_parts]
    cases hcc:c with
    |true=>
     have hx:=e3 hcc
     subst hx
     obtain ⟨rr,q1,q2,q3⟩:=fnodes_ok L N N (Tree.mk 1 0 [x]) 60 (by omega) (by omega) (by have:=lim_eq;omega) (by omega) (by omega)
     rw [cond_true,q1,Option.bind_some]
     have hdec:decide (rr≤60)=decide (nodes (Tree.mk 1 0 [x])≤60):=by
      by_cases h:nodes (Tree.mk 1 0 [x])≤60
      ·rw [dt h,q2 (by omega)];exact dt (by omega)
      ·rw [df h];exact df (by have:=q3 (by omega);omega)
     rw [hdec]
     exact ⟨_,_,rfl,by rw [decide_eq_true_eq],fun _=>rfl,by omega⟩
    |false=>
     have:¬nodes F≤60:=fun h=>by rw [e2.2 h] at hcc;cases hcc
     rw [cond_false]
     exact ⟨_,_,rfl,⟨fun h=>(by cases h),fun h=>by omega⟩,fun h=>(by cases h),by omega⟩
end Go.Proofs.YtfdcjocallblcaaGreatDoor.Ev
namespace Go.Proofs.YtfdcjocallblcaaGreatDoor.Ev
open Go
set_option linter.unusedVariables false
set_option linter.unusedSimpArgs false
theorem tellsW (L N:Nat) (hL:8589934592≤L) (hN:20000≤N) (g:Graph) (s t:Int) (hg:g.moves.length+gsize g.moves≤2147483900):
  ∃F c,f11 L N g s t=some (F,c)∧(graphOk g=false→c=false)∧(c=true→nodes F≤60∧shape F=true∧∃i j:Nat,s=(i:Int)∧t=(j:Int)∧i<g.moves.length∧j<g.moves.length∧hold g.moves F i=true∧hold g.moves F j=false∧
   ∀q',f21 L N g=some q'→q'.getD i 0≠q'.getD j 0):=by
 have hge:Graph.mk g.moves=g:=by cases g;rfl
 have h1:=gok1_big L N g (by omega) (by omega)
 show ∃F c,f11.b' L N (fun a0 a1=>some (a0,a1)) g s t=_∧_
 unfold f11.b'
 rw [hge,h1]
 simp only [Option.bind_some]
 cases hok:graphOk g with
 |false=>
  rw [Bool.not_false,cond_true]
  exact ⟨.mk 0 0 [],false,rfl,fun _=>rfl,fun h=>by cases h⟩
 |true=>
  have hm:=leads_of hok (ok_small hok).2
  obtain ⟨hn1,hn2,hmv⟩:=graphOk_mv hok
  rw [Bool.not_true,cond_false]
  by_cases s0:s<0
  ·rw [dt s0,cond_true]
   exact ⟨.mk 0 0 [],false,rfl,fun h=>(by cases h),fun h=>by cases h⟩
  by_cases s1:s≥(g.moves.length:Int)
  ·rw [df s0,cond_false,dt s1,cond_true]
   exact ⟨.mk 0 0 [],false,rfl,fun h=>(by cases h),fun h=>by cases h⟩
  rw [df s0,cond_false,df s1,cond_false]
  by_cases t0:t<0
  ·rw [dt t0,cond_true]
   exact ⟨.mk 0 0 [],false,rfl,fun h=>(by cases h),fun h=>by cases h⟩
  by_cases t1:t≥(g.moves.length:Int)
  ·rw [df t0,cond_false,dt t1,cond_true]
   exact ⟨.mk 0 0 [],false,rfl,fun h=>(by cases h),fun h=>by cases h⟩
  rw [df t0,cond_false,df t1,cond_false]
  obtain ⟨i,rfl⟩:=Int.eq_ofNat_of_zero_le (show (0:Int)≤s by omega)
  obtain ⟨j,rfl⟩:=Int.eq_ofNat_of_zero_le (show (0:Int)≤t by omega)
  have hi:i<g.moves.length:=by omega
  have hj:j<g.moves.length:=by omega
  obtain ⟨pre,q,c1,c2,c3,c4⟩:=chainI L N g.moves hm (by omega)
  have hql:=c4.1
  have c6:f21 L N g=some q:=by rw [←hge];exact classesI L N g.moves c1 c2 (by omega)
  unfold f11.j0'
  rw [c1]
  simp only [Option.bind_some]
  have hrok:RoundsOk g.moves (pre++[q]):=⟨by simp;omega,fun r h=>c3.lens _ (List.getElem_mem h)⟩
  have hlen:(pre++[q]).length=pre.length+1:=by simp
  have hwp:wi (((pre++[q]).length:Int)-1)=(pre.length:Int):=by rw [wi_id (by omega) (by omega)];omega
  have hpl:pre.length<(pre++[q]).length:=by omega
  have hlast:(pre++[q]).getD pre.length []=q:=by
   rw [getD_lt hpl,List.getElem_append_right (by simp)];simp
  have hiq:i<q.length:=by omega
  have hjq:j<q.length:=by omega
  simp only [hwp,le0,lt_cast hpl,Bool.and_true,cond_true,Int.toNat_natCast,atD,hlast,lt_cast hiq,lt_cast hjq]
  by_cases e:q.getD i 0=q.getD j 0
  ·have hb:(q.getD i 0==q.getD j 0)=true:=beq_iff_eq.2 e
   rw [hb,cond_true]
   exact ⟨.mk 0 0 [],false,rfl,fun h=>(by cases h),fun h=>by cases h⟩
  ·have hb:(q.getD i 0==q.getD j 0)=false:=beq_eq_false_iff_ne.2 e
   obtain ⟨r,hr,hd⟩:=RD.exists (s:=i) (t:=j) pre.length hpl (by rw [hlast];exact e)
   obtain ⟨F,f1,f2,f3,f4,x,c,x1,x2,x3,x4⟩:=tells_one L N (by omega) (by omega) g.moves hm (fun i hi m hm'=>by
    obtain ⟨k,hk,rfl⟩:=List.mem_iff_getElem.1 hm'
    have:=hmv i hi k hk;exact ⟨this.1,this.2.1⟩) pre q c3 c2 N i j r hi hj hd (by split<;>omega)
   rw [hb,cond_false,x1]
   simp only [Option.bind_some,mk_parts]
   cases hc:c with
   |true=>
    have hF:=x2.1 hc
    have hx:=x3 hc
    subst hx
    rw [Bool.not_true,cond_false]
    exact ⟨x,true,rfl,fun h=>(by cases h),fun _=>⟨hF,f1,i,j,rfl,rfl,hi,hj,f3,f4,fun q' h'=>by rw [c6] at h';obtain rfl:=Option.some.inj h';exact e⟩⟩
   |false=>
    rw [Bool.not_false,cond_true]
    exact ⟨.mk 0 0 [],false,rfl,fun h=>(by cases h),fun h=>by cases h⟩
end Go.Proofs.YtfdcjocallblcaaGreatDoor.Ev
namespace Go.Proofs.YtfdcjocallblcaaGreatDoor.Ev
open Go
set_option linter.unusedVariables false
set_option linter.unusedSimpArgs false
theorem Inert.slip {ms:List (List Move)} {p:List Int} {s u:Nat} (h:Inert ms p s u):Slip ms (fun x=>x=s) u:=by
 induction h with
 |base=>exact .base s rfl
 |step u t _ hu k hk hi ht ih=>exact .step u t ih hu k hk hi.1 ht
theorem br_step {ms:List (List Move)} (hm:Leads ms) {b:List Int} (hb:Fix (BAkin ms) ms.length b) {s s':Nat} (hs:s<ms.length) (hs':s'<ms.length) (e:b.getD s 0=b.getD s' 0) {k:Nat} (hk:k<(ms[s]).length) {t:Nat} (ht:(ms[s])[k].to=(t:Int)):
  ((ms[s])[k].act=0∧b.getD t 0=b.getD s' 0)∨∃u' t',Slip ms (fun x=>x=s') u'∧∃(hu:u'<ms.length) (k':Nat) (hk':k'<(ms[u']).length),(ms[u'])[k'].act=(ms[s])[k].act∧(ms[u'])[k'].to=((t':Nat):Int)∧b.getD t 0=b.getD t' 0:=by
 by_cases hin:inB b s (ms[s])[k]
 ·left
  have:=hin.2
  rw [ht,Int.toNat_natCast] at this
  exact ⟨hin.1,this.trans e⟩
 ·right
  have hmk:Marked ms b s ⟨(ms[s])[k].act,b.getD t 0⟩:=⟨s,.base,hs,k,hk,hin,by rw [ht,Int.toNat_natCast]⟩
  obtain ⟨u',hu',hul',k',hk',hn',hx⟩:=(((bakin_iff hm b hs' hs).1 ((hb.same (bakinEq ms) hs hs').1 e)).2 _).1 hmk
  obtain ⟨t',ht',htl'⟩:=hm.nat hul' hk'
  injection hx with hx1 hx2
  rw [ht',Int.toNat_natCast] at hx2
  exact ⟨u',t',hu'.slip,hul',k',hk',hx1.symm,ht',hx2⟩
theorem br_slip {ms:List (List Move)} (hm:Leads ms) {b:List Int} (hb:Fix (BAkin ms) ms.length b) {s s' u:Nat} (hs:s<ms.length) (hs':s'<ms.length) (e:b.getD s 0=b.getD s' 0) (h:Slip ms (fun x=>x=s) u):∃u',Slip ms (fun x=>x=s') u'∧b.getD u 0=b.getD u' 0:=by
 induction h with
 |base t hx=>subst hx;exact ⟨s',.base s' rfl,e⟩
 |step u t hu hul k hk ha ht ih=>
  obtain ⟨u',h1,h2⟩:=ih
  have hul':u'<ms.length:=h1.lt hm (fun x hx=>by omega)
  rcases br_step hm hb hul hul' h2 hk ht with ⟨-,h3⟩|⟨v,t',h3,hv,k',hk',h4,h5,h6⟩
  ·exact ⟨u',h1,h3⟩
  ·exact ⟨t',.step v t' (h3.trans fun x hx=>by subst hx;exact h1) hv k' hk' (h4.trans ha) h5,h6⟩
theorem br_weak {ms:List (List Move)} (hm:Leads ms) {b:List Int} (hb:Fix (BAkin ms) ms.length b) {s s':Nat} (hs:s<ms.length) (hs':s'<ms.length) (e:b.getD s 0=b.getD s' 0) {m:Move} (h:WkS ms s m):
  ∃m',WkS ms s' m'∧m'.act=m.act∧∃t t':Nat,m.to=(t:Int)∧m'.to=(t':Int)∧t<ms.length∧t'<ms.length∧b.getD t 0=b.getD t' 0:=by
 obtain ⟨mid,h1,h2⟩:=h
 have hmid:mid<ms.length:=h1.lt hm (fun x hx=>by omega)
 obtain ⟨mid',g1,g2⟩:=br_slip hm hb hs hs' e h1
 have hmid':mid'<ms.length:=g1.lt hm (fun x hx=>by omega)
 rcases h2 with ⟨ha,ht⟩|⟨_,k,hk,t,u,ha,hact,ht,hu,hto⟩
 ·exact ⟨⟨0,(mid':Int)⟩,⟨mid',g1,.inl ⟨rfl,rfl⟩⟩,ha.symm,mid,mid',ht,rfl,hmid,hmid',g2⟩
 ·have htl:t<ms.length:=by have:=(hm.2 mid hmid).2 k hk;omega
  have hul:u<ms.length:=hu.lt hm (fun x hx=>by omega)
  rcases br_step hm hb hmid hmid' g2 hk ht with ⟨h3,-⟩|⟨v,t',h3,hv,k',hk',h4,h5,h6⟩
  ·exact absurd h3 ha
  ·have htl':t'<ms.length:=by have:=(hm.2 v hv).2 k' hk';omega
   obtain ⟨u',g3,g4⟩:=br_slip hm hb htl htl' h6 hu
   have hul':u'<ms.length:=g3.lt hm (fun x hx=>by omega)
   refine ⟨⟨m.act,(u':Int)⟩,⟨v,h3.trans fun x hx=>by subst hx;exact g1,.inr ⟨hv,k',hk',t',u',by rw [h4];exact ha,hact.trans h4.symm,h5,g3,rfl⟩⟩,rfl,u,u',hto,rfl,hul,hul',g4⟩
theorem branch_weak {ms rows:List (List Move)} (hm:Leads ms) (hl:rows.length=ms.length) (hr:∀(j:Nat) (hj:j<rows.length),∀m,m∈rows[j]↔WkS ms j m) {b w:List Int} {pre:List (List Int)} (hb:Fix (BAkin ms) ms.length b) (hw:Chain (Akin rows) rows.length pre w)
  {i j:Nat} (hi:i<ms.length) (hj:j<ms.length) (e:b.getD i 0=b.getD j 0):w.getD i 0=w.getD j 0:=by
 refine hw.keeps (akinEq rows) (fun i j=>b.getD i 0=b.getD j 0) (fun p hpl hp i j hi hj e=>⟨hp i j hi hj e,fun m=>?_⟩) i j (by omega) (by omega) e
 have go:∀i j,i<rows.length→j<rows.length→b.getD i 0=b.getD j 0→∀m,Sig rows p i m→Sig rows p j m:=fun i j hi hj e m ⟨hu,k,hk,h1,h2⟩=>by
  obtain ⟨m',g1,g2,t,t',g3,g4,g5,g6,g7⟩:=br_weak hm hb (by omega) (show j<ms.length by omega) e ((hr i hu _).1 (List.getElem_mem hk))
  obtain ⟨k',hk',e'⟩:=List.mem_iff_getElem.1 ((hr j hj _).2 g1)
  refine ⟨hj,k',hk',by rw [e',g2,h1],?_⟩
  rw [h2,g3,e',g4,Int.toNat_natCast,Int.toNat_natCast]
  exact hp t t' (by omega) (by omega) g7
 exact ⟨go j i hj hi e.symm m,go i j hi hj e m⟩
end Go.Proofs.YtfdcjocallblcaaGreatDoor.Ev
namespace Go.Proofs.YtfdcjocallblcaaGreatDoor.Ev
open Go
set_option linter.unusedVariables false
set_option linter.unusedSimpArgs false
def Row (ms:List (List Move)) (q:List Int) (X:Nat→Prop):Prop:=q.length≤ms.length∧(∀v∈q,0≤v∧v<(ms.length:Int))∧(∀t:Nat,(t:Int)∈q↔X t)∧Rises q
theorem Row.some {ms:List (List Move)} {q:List Int} {X:Nat→Prop} (h:Row ms q X):0<q.length↔∃t,X t:=by
 constructor
 ·intro hp
  have hm:=List.getElem_mem hp
  obtain ⟨t,ht⟩:=Int.eq_ofNat_of_zero_le (h.2.1 _ hm).1
  exact ⟨t,(h.2.2.1 t).1 (by rw [←ht];exact hm)⟩
 ·rintro ⟨t,ht⟩
  exact List.length_pos_of_mem ((h.2.2.1 t).2 ht)
theorem Row.uniq {ms:List (List Move)} {q q':List Int} {X:Nat→Prop} (h:Row ms q X) (h':Row ms q' X):q=q':=by
 refine rises_ext h.2.2.2 h'.2.2.2 fun x=>⟨fun hx=>?_,fun hx=>?_⟩
 ·obtain ⟨t,rfl⟩:=Int.eq_ofNat_of_zero_le (h.2.1 _ hx).1
  exact (h'.2.2.1 t).2 ((h.2.2.1 t).1 hx)
 ·obtain ⟨t,rfl⟩:=Int.eq_ofNat_of_zero_le (h'.2.1 _ hx).1
  exact (h.2.2.1 t).2 ((h'.2.2.1 t).1 hx)
abbrev BehW (ms:List (List Move)) (w:List Int):Nat→Prop:=Beh ms (Slip ms fun x=>x=0) w
theorem first_row (L N:Nat) (ms:List (List Move)) (hm:Leads ms) (h1:1≤ms.length) (hL:268435456≤L):∃q,f60 L N ⟨ms⟩ [0]=some q∧Row ms q (Slip ms fun x=>x=0):=by
 have hlim:=lim_eq
 obtain ⟨q0,a1,a2,a3,a4,a5⟩:=slip1_ok L N ms [0] hm (fun v hv=>by obtain rfl:=List.mem_singleton.1 hv;omega) (by simp only [List.length_cons,List.length_nil];omega) (by simp only [List.length_cons,List.length_nil];omega) (by omega)
 refine ⟨q0,a1,a2,a3,fun t=>?_,a5⟩
 rw [a4 t]
 exact Slip.iff (fun t=>by rw [List.mem_singleton];omega) t
theorem after_row (L N:Nat) (ms:List (List Move)) (q:List Int) (X:Nat→Prop) (a:Int) (hm:Leads ms) (h:Row ms q X) (hL:268435456≤L):∃q',f46 L N ⟨ms⟩ q a=some q'∧Row ms q' (Slip ms (StepX ms X a)):=by
 obtain ⟨q',b1,b2,b3,b4,b5⟩:=after_ok L N ms q a hm h.1 h.2.1 hL
 exact ⟨q',b1,b2,b3,fun t=>(b4 t).trans (Slip.iff (fun t=>StepX.iff (fun t=>h.2.2.1 t) a t) t),b5⟩
theorem behI (L N:Nat) (ms:List (List Move)) (w:List Int) (hm:Leads ms) (h1:1≤ms.length) (hw:w.length≤1048576) (hL:268435456≤L):∃q,f42 L N ⟨ms⟩ w=some q∧Row ms q (BehW ms w):=by
 have hlim:=lim_eq
 have hn:=hm.1
 show ∃q,f42.b L N some ⟨ms⟩ w=some q∧_
 unfold f42.b f42.b'
 obtain ⟨q0,a1,a2⟩:=first_row L N ms hm h1 hL
 have a1':f60 L N (Graph.mk (Graph.mk ms).moves) [0]=some q0:=a1
 rw [a1',Option.bind_some]
 have key:∀(n i:Nat) (q:List Int) (X:Nat→Prop),i≤w.length→w.length-i<n→Row ms q X→∃q',f42.l0 L N (fun z6=>f42.p0_e0 L N some z6) n w (w.length:Int) (i:Int) ms q=some q'∧Row ms q' (Beh ms X (w.drop i)):=by
  intro n
  induction n with
  |zero=>intro i q X _ h;omega
  |succ n ih=>
   intro i q X hi hn' hq
   show ∃q',f42.s0 L N _ (f42.l0 L N _ n) w (w.length:Int) (i:Int) ms q=some q'∧_
   unfold f42.s0 f42.s0'
   by_cases hlt:i<w.length
   ·obtain ⟨q2,b1,b2⟩:=after_row L N ms q X w[i] hm hq hL
    simp only [lt_cast hlt,le0,Bool.and_true,cond_true,Int.toNat_natCast,at_lt hlt,b1,Option.bind_some]
    rw [wi_nat (by omega),List.drop_eq_getElem_cons hlt]
    exact ih (i+1) q2 _ (by omega) (by omega) b2
   ·rw [ge_cast hlt,cond_false,List.drop_eq_nil_of_le (by omega)]
    exact ⟨q,rfl,hq⟩
 exact key L 0 q0 _ (by omega) (by omega) a2
end Go.Proofs.YtfdcjocallblcaaGreatDoor.Ev
namespace Go.Proofs.YtfdcjocallblcaaGreatDoor.Ev
open Go
set_option linter.unusedVariables false
set_option linter.unusedSimpArgs false
end Go.Proofs.YtfdcjocallblcaaGreatDoor.Ev
namespace Go.Proofs.YtfdcjocallblcaaGreatDoor.Ev
open Go
set_option linter.unusedVariables false
set_option linter.unusedSimpArgs false
def digL (n:Nat):List UInt8:=if n<10 then [UInt8.ofNat (48+n)] else [UInt8.ofNat (48+n/10),UInt8.ofNat (48+n%10)]
theorem dig_eq {n:Nat} (h:n<100):Lib.decDigits n=digL n:=by
 unfold digL
 by_cases h1:n<10
 ·rw [Lib.decDigits,dif_pos h1,if_pos h1]
 ·rw [Lib.decDigits,dif_neg h1,if_neg h1,Lib.decDigits,dif_pos (show n/10<10 by omega)];rfl
theorem u8_inj {a b:Nat} (ha:a<256) (hb:b<256) (h:UInt8.ofNat a=UInt8.ofNat b):a=b:=by
 have:=congrArg UInt8.toNat h
 simpa [UInt8.toNat_ofNat',Nat.mod_eq_of_lt ha,Nat.mod_eq_of_lt hb] using this
theorem dig_inj {n m:Nat} (hn:n<100) (hm:m<100) {r r':List UInt8} (h:digL n++(32::r)=digL m++(32::r')):n=m∧r=r':=by
 have ne:∀{k:Nat},k<10→UInt8.ofNat (48+k)≠32:=fun {k} hk e=>by
  have:=u8_inj (a:=48+k) (b:=32) (by omega) (by omega) e;omega
 unfold digL at h
 by_cases h1:n<10<;>by_cases h2:m<10
 ·rw [if_pos h1,if_pos h2] at h
  simp only [List.cons_append,List.nil_append,List.cons.injEq,true_and] at h
  have:=u8_inj (by omega) (by omega) h.1
  exact ⟨by omega,h.2⟩
 ·rw [if_pos h1,if_neg h2] at h
  simp only [List.cons_append,List.nil_append,List.cons.injEq] at h
  exact absurd h.2.1.symm (ne (by omega))
 ·rw [if_neg h1,if_pos h2] at h
  simp only [List.cons_append,List.nil_append,List.cons.injEq] at h
  exact absurd h.2.1 (ne (by omega))
 ·rw [if_neg h1,if_neg h2] at h
  simp only [List.cons_append,List.nil_append,List.cons.injEq,true_and] at h
  have e1:=u8_inj (by omega) (by omega) h.1
  have e2:=u8_inj (by omega) (by omega) h.2.1
  exact ⟨by omega,h.2.2⟩
def numsL (l:List Int):List UInt8:=l.flatMap fun n=>digL n.toNat++[32]
def keyL (l:List Int):List UInt8:=91::(numsL l++[93])
theorem numsL_inj:∀{a b:List Int},(∀v∈a,0≤v∧v<100)→(∀v∈b,0≤v∧v<100)→∀r r',numsL a++(93::r)=numsL b++(93::r')→a=b∧r=r'
 |[],[],_,_,r,r',h=>⟨rfl,(List.cons.inj h).2⟩
 |[],y::b,_,hb,r,r',h=>by
  exfalso
  have hy:=hb y (.head _)
  have h0:∀{n:Nat},n<100→∃d s,digL n=UInt8.ofNat (48+d)::s∧d<10:=fun {n} hn=>by
   unfold digL;split
   ·exact ⟨n,[],rfl,by omega⟩
   ·exact ⟨n/10,_,rfl,by omega⟩
  obtain ⟨d,s,e,hd⟩:=h0 (n:=y.toNat) (by omega)
  unfold numsL at h
  rw [List.flatMap_cons,e] at h
  simp only [List.flatMap_nil,List.nil_append,List.cons_append,List.cons.injEq] at h
  have:=u8_inj (a:=93) (by omega) (by omega) h.1
  omega
 |x::a,[],ha,_,r,r',h=>by
  exfalso
  have hy:=ha x (.head _)
  have h0:∀{n:Nat},n<100→∃d s,digL n=UInt8.ofNat (48+d)::s∧d<10:=fun {n} hn=>by
   unfold digL;split
   ·exact ⟨n,[],rfl,by omega⟩
   ·exact ⟨n/10,_,rfl,by omega⟩
  obtain ⟨d,s,e,hd⟩:=h0 (n:=x.toNat) (by omega)
  unfold numsL at h
  rw [List.flatMap_cons,e] at h
  simp only [List.flatMap_nil,List.nil_append,List.cons_append,List.cons.injEq] at h
  have:=u8_inj (b:=93) (by omega) (by omega) h.1
  omega
 |x::a,y::b,ha,hb,r,r',h=>by
  have hx:=ha x (.head _);have hy:=hb y (.head _)
  have h':digL x.toNat++(32::(numsL a++(93::r)))=digL y.toNat++(32::(numsL b++(93::r'))):=by
   unfold numsL at h⊢
   rw [List.flatMap_cons,List.flatMap_cons] at h
   simpa using h
  obtain ⟨e1,e2⟩:=dig_inj (by omega) (by omega) h'
  obtain ⟨e3,e4⟩:=numsL_inj (fun v hv=>ha v (.tail _ hv)) (fun v hv=>hb v (.tail _ hv)) r r' e2
  exact ⟨by rw [e3,show x=y by omega],e4⟩
theorem keyL_inj {a b:List Int} (ha:∀v∈a,0≤v∧v<100) (hb:∀v∈b,0≤v∧v<100) {r r':List UInt8} (h:keyL a++r=keyL b++r'):a=b∧r=r':=by
 unfold keyL at h
 refine numsL_inj ha hb r r' ?_
 have:=(List.cons.inj h).2
 simpa using this
end Go.Proofs.YtfdcjocallblcaaGreatDoor.Ev
namespace Go.Proofs.YtfdcjocallblcaaGreatDoor.Ev
open Go
set_option linter.unusedVariables false
set_option linter.unusedSimpArgs false
theorem getI {zs:List Int} {i:Nat} (h:i<zs.length):(zs.toArray)[i]! =zs[i]:=by simp [getElem!_pos,h]
theorem sortI_le (xs:List Int):(sortI xs).Pairwise fun a b=>a≤b:=by
 have h:=List.pairwise_mergeSort (le:=fun x y:Int=>decide (x≤y)) (fun a b c h1 h2=>by
  simp only [decide_eq_true_eq] at*;omega) (fun a b=>by simp only [Bool.or_eq_true,decide_eq_true_eq];omega) xs
 exact h.imp fun h=>of_decide_eq_true h
theorem compactI_rises {zs:List Int} (hs:zs.Pairwise fun a b=>a≤b):Rises (Go.Lib.compact zs):=by
 unfold Rises Go.Lib.compact Go.Lib.compactUpTo
 rw [List.pairwise_map]
 refine List.Pairwise.imp_of_mem ?_ (List.Pairwise.filter _ List.pairwise_lt_range)
 intro i j hi hj hij
 rw [List.mem_filter,List.mem_range] at hi hj
 have hjl:=hj.1
 rw [getI hi.1,getI hj.1]
 have hk:=hj.2
 unfold Go.Lib.keeps at hk
 have hk:=of_decide_eq_true hk
 have hne:zs[j]≠zs[j-1]:=by
  rcases hk with h|h
  ·omega
  ·rwa [getI hj.1,getI (show j-1<zs.length by omega)] at h
 have h1:=List.pairwise_iff_getElem.1 hs (j-1) j (by omega) (by omega) (by omega)
 by_cases e:i=j-1
 ·subst e;omega
 ·have h2:=List.pairwise_iff_getElem.1 hs i (j-1) (by omega) (by omega) (by omega)
  omega
theorem compactI_mem (zs:List Int) (v:Int):v∈Go.Lib.compact zs↔v∈zs:=by
 unfold Go.Lib.compact Go.Lib.compactUpTo
 rw [List.mem_map]
 constructor
 ·rintro ⟨i,hi,rfl⟩
  rw [List.mem_filter,List.mem_range] at hi
  rw [getI hi.1];exact List.getElem_mem hi.1
 ·intro hv
  obtain ⟨i,hi,rfl⟩:=List.mem_iff_getElem.1 hv
  clear hv
  induction i with
  |zero=>exact ⟨0,by rw [List.mem_filter,List.mem_range];exact ⟨hi,by simp [Go.Lib.keeps]⟩,getI hi⟩
  |succ i ih=>
   by_cases hk:Go.Lib.keeps zs.toArray (i+1)=true
   ·exact ⟨i+1,by rw [List.mem_filter,List.mem_range];exact ⟨hi,hk⟩,getI hi⟩
   ·have:zs[i+1]=zs[i]:=by
     unfold Go.Lib.keeps at hk
     have hk:¬(i+1=0∨zs.toArray[i+1]!≠zs.toArray[i+1-1]!):=fun h=>hk (decide_eq_true h)
     have h2:=Classical.not_not.1 (fun h=>hk (.inr h))
     rw [getI hi,Nat.add_sub_cancel,getI (show i<zs.length by omega)] at h2
     exact h2
    rw [this]
    exact ih (by omega)
def seenActs (r:List Move):List Int:=(r.filter fun m=>m.act !=0).map Move.act
theorem actsOf_ok (L N:Nat) (ms:List (List Move)) (hm:Leads ms) (q:List Int) (X:Nat→Prop) (hq:Row ms q X) (hL:268435456≤L):
  ∃ac,f45 L N ⟨ms⟩ q=some ac∧Rises ac∧ac.length≤100000000∧∀a,a∈ac↔a≠0∧∃t,StepX ms X a t:=by
 have hlim:=lim_eq
 have hn:=hm.1
 have hql:=hq.1
 have hrow:∀v∈q,∃s:Nat,v=(s:Int)∧s<ms.length:=fun v hv=>by
  have:=hq.2.1 v hv
  exact ⟨v.toNat,by omega,by omega⟩
 show ∃ac,f45.b L N some ⟨ms⟩ q=some ac∧_
 unfold f45.b f45.b'
 have key:∀(n i:Nat) (out:List Int),i≤q.length→q.length-i<n→out.length≤i*1048576→
   ∃out',f45.l0 L N (fun z5=>f45.p0_e0 L N some z5) n q (q.length:Int) (i:Int) ms out=f45.p0_e0 L N some out'∧out'.length≤q.length*1048576∧∀a,a∈out'↔a∈out∨∃v∈q.drop i,a∈seenActs (ms.getD v.toNat []):=by
  intro n
  induction n with
  |zero=>intro i out _ h;omega
  |succ n ih=>
   intro i out hi hn' ho
   show ∃out',f45.s0 L N _ (f45.l0 L N _ n) q (q.length:Int) (i:Int) ms out=_∧_
   unfold f45.s0 f45.s0'
   by_cases hlt:i<q.length
   ·obtain ⟨s,hs,hsl⟩:=hrow _ (List.getElem_mem hlt)
    have hrl:=(hm.2 s hsl).1
    have inner:∀(n' j:Nat) (o:List Int),j≤(ms[s]).length→(ms[s]).length-j<n'→o.length≤i*1048576+j→
      f45.l1 L N (fun z14 z15 z16 z17 z18=>f45.p1_e2 L N (fun z5=>f45.p0_e0 L N some z5) (f45.l0 L N (fun z5=>f45.p0_e0 L N some z5) n) z14 z15 z16 z17 z18) n' q (q.length:Int) (i:Int) ms[s] ((ms[s]).length:Int) (j:Int) ms o
       =f45.l0 L N (fun z5=>f45.p0_e0 L N some z5) n q (q.length:Int) ((i+1:Nat):Int) ms (o++seenActs ((ms[s]).drop j)):=by
     intro n'
     induction n' with
     |zero=>intro j o _ h;omega
     |succ n' ih'=>
      intro j o hj hn2 ho'
      show f45.s1 L N _ (f45.l1 L N _ n') q (q.length:Int) (i:Int) ms[s] ((ms[s]).length:Int) (j:Int) ms o=_
      unfold f45.s1 f45.s1'
      by_cases hjl:j<(ms[s]).length
      ·have hle:decide (o.length+([(ms[s])[j].act]:List Int).length≤lim)=true:=dt (by simp only [List.length_cons,List.length_nil];omega)
       simp only [lt_cast hjl,le0,Bool.and_true,cond_true,Int.toNat_natCast,at_lt hjl,hle]
       rw [wi_nat (by omega),List.drop_eq_getElem_cons hjl]
       cases hb:((ms[s])[j].act !=0) with
       |true=>
        rw [cond_true,ih' (j+1) _ (by omega) (by omega) (by simp;omega)]
        unfold seenActs
        rw [List.filter_cons,if_pos hb,List.map_cons,List.append_assoc];rfl
       |false=>
        rw [cond_false,ih' (j+1) _ (by omega) (by omega) (by omega)]
        unfold seenActs
        rw [List.filter_cons,if_neg (by rw [hb];simp)]
      ·rw [ge_cast hjl,cond_false,List.drop_eq_nil_of_le (by omega)]
       show f45.p1_e2 L N _ _ q (q.length:Int) (i:Int) ms o=_
       unfold f45.p1_e2 f45.p1_e2'
       rw [wi_nat (by omega)]
       simp [seenActs]
    have h1:=inner L 0 out (by omega) (by omega) (Nat.le_trans ho (Nat.le_add_right _ _))
    rw [List.drop_zero] at h1
    have hsl':(seenActs ms[s]).length≤1048576:=by
     unfold seenActs;rw [List.length_map];exact Nat.le_trans (List.length_filter_le _ _) hrl
    obtain ⟨out',e1,e2,e3⟩:=ih (i+1) (out++seenActs ms[s]) (by omega) (by omega) (by simp;omega)
    refine ⟨out',?_,e2,fun a=>?_⟩
    ·simp only [lt_cast hlt,le0,Bool.and_true,cond_true,Int.toNat_natCast,at_lt hlt,hs,lt_cast hsl,at_lt hsl]
     exact h1.trans e1
    ·rw [e3 a,List.mem_append,List.drop_eq_getElem_cons hlt]
     have hgs:ms.getD (q[i]).toNat []=ms[s]:=by rw [hs,Int.toNat_natCast,getD_lt hsl]
     constructor
     ·rintro ((h|h)|⟨v,hv,h⟩)
      ·exact .inl h
      ·exact .inr ⟨_,.head _,by rw [hgs];exact h⟩
      ·exact .inr ⟨v,.tail _ hv,h⟩
     ·rintro (h|⟨v,hv,h⟩)
      ·exact .inl (.inl h)
      ·rcases List.mem_cons.1 hv with rfl|hv
       ·exact .inl (.inr (by rw [←hgs];exact h))
       ·exact .inr ⟨v,hv,h⟩
   ·rw [ge_cast hlt,cond_false]
    refine ⟨out,rfl,by have:i=q.length:=by omega
                       subst this;exact ho,fun a=>?_⟩
    rw [List.drop_eq_nil_of_le (by omega)]
    simp
 obtain ⟨out',e1,e2,e3⟩:=key L 0 [] (by omega) (by omega) (Nat.zero_le _)
 rw [List.drop_zero] at e3
 have hol:out'.length≤62914560:=by
  have:q.length*1048576≤60*1048576:=Nat.mul_le_mul_right _ (by omega)
  omega
 have e1':f45.l0 L N (fun z5=>f45.p0_e0 L N some z5) L q (q.length:Int) 0 ms []=f45.p0_e0 L N some out':=e1
 refine ⟨Go.Lib.compact (sortI out'),?_,compactI_rises (sortI_le _),?_,fun a=>?_⟩
 ·refine e1'.trans ?_
  unfold f45.p0_e0 f45.p0_e0' fsort
  rw [dt (by omega),cond_true,Option.bind_some,sortI_length,dt (by omega),cond_true,Option.bind_some]
 ·have:=compactI_le (sortI out')
  rw [sortI_length] at this;omega
 ·rw [compactI_mem,sortI_mem,e3 a]
  constructor
  ·rintro (h|⟨v,hv,h⟩)
   ·cases h
   ·obtain ⟨s,rfl,hsl⟩:=hrow v hv
    rw [Int.toNat_natCast,getD_lt hsl] at h
    obtain ⟨m,hmm,rfl⟩:=List.mem_map.1 h
    obtain ⟨h1,h2⟩:=List.mem_filter.1 hmm
    obtain ⟨k,hk,rfl⟩:=List.mem_iff_getElem.1 h1
    obtain ⟨t,ht,_⟩:=hm.nat hsl hk
    exact ⟨by rwa [bne_iff_ne] at h2,t,s,(hq.2.2.1 s).1 hv,hsl,k,hk,rfl,ht⟩
  ·rintro ⟨h0,t,s,hs,hsl,k,hk,ha,ht⟩
   refine .inr ⟨(s:Int),(hq.2.2.1 s).2 hs,?_⟩
   rw [Int.toNat_natCast,getD_lt hsl]
   exact List.mem_map.2 ⟨_,List.mem_filter.2 ⟨List.getElem_mem hk,by rw [bne_iff_ne,ha];exact h0⟩,ha⟩
def keyB (q:List Int):ByteArray:=⟨(keyL q).toArray⟩
theorem ba_app (a b:List UInt8):(⟨a.toArray⟩:ByteArray)++⟨b.toArray⟩=⟨(a++b).toArray⟩:=by
 apply ByteArray.ext
 rw [ByteArray.data_append]
 simp
theorem ba_size (a:List UInt8):(⟨a.toArray⟩:ByteArray).size=a.length:=by
 show a.toArray.size=_
 simp
theorem digL_len (n:Nat):(digL n).length≤2:=by unfold digL;split<;>simp
theorem setKey_ok (L N:Nat) (q:List Int) (hq:q.length≤60) (hr:∀v∈q,0≤v∧v<60) (hL:100<L):f43 L N q=some (keyB q):=by
 show f43.b L N some q=_
 unfold f43.b f43.b'
 have key:∀(n i:Nat) (s:List UInt8),i≤q.length→q.length-i<n→s.length≤10+4*i→
   f43.l0 L N (fun z4=>f43.p0_e0 L N some z4) n ⟨s.toArray⟩ q (q.length:Int) (i:Int)=some ⟨(s++(numsL (q.drop i)++[93])).toArray⟩:=by
  intro n
  induction n with
  |zero=>intro i s _ h;omega
  |succ n ih=>
   intro i s hi hn hs
   show f43.s0 L N _ (f43.l0 L N _ n) ⟨s.toArray⟩ q (q.length:Int) (i:Int)=_
   unfold f43.s0 f43.s0'
   by_cases hlt:i<q.length
   ·have hv:=hr _ (List.getElem_mem hlt)
    have hf:fitoa q[i]=some ⟨(digL (q[i]).toNat).toArray⟩:=by
     unfold fitoa itoaB
     rw [dt (show (0:Int)≤q[i] by omega),dt (show q[i]<100 by omega),dig_eq (by omega)];rfl
    have h32:(ByteArray.mk #[32])=⟨([32]:List UInt8).toArray⟩:=rfl
    have hd:=digL_len (q[i]).toNat
    simp only [lt_cast hlt,le0,Bool.and_true,cond_true,Int.toNat_natCast,at_lt hlt,hf,Option.bind_some,h32,ba_app,ba_size]
    rw [dt (by simp;omega),dt (by simp;omega),cond_true,cond_true,wi_nat (by omega),ih (i+1) _ (by omega) (by omega) (by simp;omega),List.drop_eq_getElem_cons hlt]
    congr 3
    unfold numsL
    rw [List.flatMap_cons]
    simp
   ·rw [ge_cast hlt,cond_false,List.drop_eq_nil_of_le (by omega)]
    show f43.p0_e0 L N some ⟨s.toArray⟩=_
    unfold f43.p0_e0 f43.p0_e0'
    have h93:(ByteArray.mk #[93])=⟨([93]:List UInt8).toArray⟩:=rfl
    rw [h93,ba_app,ba_size,ba_size,dt (by simp;omega),cond_true]
    rfl
 have:=key L 0 [91] (by omega) (by omega) (by simp)
 rw [List.drop_zero] at this
 exact this
theorem keyB_inj {a b:List Int} (ha:∀v∈a,0≤v∧v<60) (hb:∀v∈b,0≤v∧v<60) (h:keyB a=keyB b):a=b:=by
 have h1:(keyL a).toArray=(keyL b).toArray:=congrArg ByteArray.data h
 have h2:keyL a=keyL b:=by simpa using h1
 exact (keyL_inj (r:=[]) (r':=[]) (fun v hv=>by have:=ha v hv;omega) (fun v hv=>by have:=hb v hv;omega) (by rw [h2])).1
theorem keyEq_str (x y:ByteArray):keyEq .str x y=decide (x=y):=by
 show (x==y)=_
 rw [Bool.eq_iff_iff,decide_eq_true_eq]
 obtain ⟨a⟩:=x
 obtain ⟨b⟩:=y
 show (a==b)=true↔_
 rw [beq_iff_eq]
 exact ⟨fun h=>by rw [h],fun h=>congrArg ByteArray.data h⟩
theorem mapFind_put (x y:ByteArray) (v:Int):∀es:List (ByteArray×Int),mapFind .str i64 x (mapPut .str i64 y v es)=if y=x then some v else mapFind .str i64 x es
 |[]=>by
  show (bif keyEq .str x y then some v else none)=_
  by_cases e:y=x
  ·subst e
   rw [show keyEq .str y y=true from by rw [keyEq_str];exact dt rfl,cond_true,if_pos rfl]
  ·rw [show keyEq .str x y=false from by rw [keyEq_str];exact df fun h=>e h.symm,cond_false,if_neg e];rfl
 |(k,u)::r=>by
  have ih:=mapFind_put x y v r
  by_cases e:y=k
  ·subst e
   have h1:mapPut .str i64 y v ((y,u)::r)=(y,v)::r:=by
    show (bif keyEq .str y y then (y,v)::r else _)=_
    rw [show keyEq .str y y=true from by rw [keyEq_str];exact dt rfl,cond_true]
   rw [h1]
   show (bif keyEq .str x y then some v else mapFind .str i64 x r)=if y=x then some v else (bif keyEq .str x y then some u else mapFind .str i64 x r)
   by_cases e2:y=x
   ·subst e2
    rw [show keyEq .str y y=true from by rw [keyEq_str];exact dt rfl,cond_true,if_pos rfl]
   ·rw [show keyEq .str x y=false from by rw [keyEq_str];exact df fun h=>e2 h.symm,cond_false,cond_false,if_neg e2]
  ·have h1:mapPut .str i64 y v ((k,u)::r)=(k,u)::mapPut .str i64 y v r:=by
    show (bif keyEq .str y k then _ else (k,u)::mapPut .str i64 y v r)=_
    rw [show keyEq .str y k=false from by rw [keyEq_str];exact df e,cond_false]
   rw [h1]
   show (bif keyEq .str x k then some u else mapFind .str i64 x (mapPut .str i64 y v r))=if y=x then some v else (bif keyEq .str x k then some u else mapFind .str i64 x r)
   by_cases e2:x=k
   ·subst e2
    rw [show keyEq .str x x=true from by rw [keyEq_str];exact dt rfl,cond_true,cond_true,if_neg e]
   ·rw [show keyEq .str x k=false from by rw [keyEq_str];exact df e2,cond_false,cond_false,ih]
def Places (S:List (List Int)) (es:List (ByteArray×Int)):Prop:=∀x:List Int,(∀v∈x,0≤v∧v<60)→mapFind .str i64 (keyB x) es=if x∈S then some ((S.idxOf x:Nat):Int) else none
theorem Places.add {S:List (List Int)} {es:List (ByteArray×Int)} (h:Places S es) {y:List Int} (hy:∀v∈y,0≤v∧v<60) (hn:y∉S):Places (S++[y]) (mapPut .str i64 (keyB y) ((S.length:Nat):Int) es):=by
 intro x hx
 rw [mapFind_put]
 by_cases e:y=x
 ·subst e
  rw [if_pos rfl,if_pos (by simp),List.idxOf_append,if_neg hn]
  simp
 ·rw [if_neg (fun h=>e (keyB_inj hy hx h)),h x hx]
  by_cases hm:x∈S
  ·rw [if_pos hm,if_pos (List.mem_append_left _ hm),List.idxOf_append,if_pos hm]
  ·rw [if_neg hm,if_neg (by simp [hm];exact fun h=>e h.symm)]
theorem Places.nil:Places [] []:=fun x _=>by rw [if_neg (by simp)];rfl
end Go.Proofs.YtfdcjocallblcaaGreatDoor.Ev
namespace Go.Proofs.YtfdcjocallblcaaGreatDoor.Ev
open Go
set_option linter.unusedVariables false
set_option linter.unusedSimpArgs false
def stepA (A:Int→List Int):List Int→List (List Int)→List Move→Option (List (List Int)×List Move)
 |[],S,M=>some (S,M)
 |a::ac,S,M=>if A a∉S∧S.length=60 then none else stepA A ac (if A a∈S then S else S++[A a]) (M++[⟨a,((S.idxOf (A a):Nat):Int)⟩])
theorem stepA_grow (A:Int→List Int):∀(ac:List Int) (S:List (List Int)) (M:List Move) (S':List (List Int)) (M':List Move),stepA A ac S M=some (S',M')→
  (∃T,S'=S++T)∧M'.map Move.act=M.map Move.act++ac∧(S.length≤60→S'.length≤60)∧(S.length≤60→(∀m∈M,0≤m.to∧m.to<60)→∀m∈M',0≤m.to∧m.to<60)∧(∀x∈S',x∈S∨∃a∈ac,x=A a)
 |[],S,M,S',M',h=>by
  obtain ⟨rfl,rfl⟩:=Prod.mk.inj (Option.some.inj h)
  exact ⟨⟨[],by simp⟩,by simp,fun h=>h,fun _ h=>h,fun x hx=>.inl hx⟩
 |a::ac,S,M,S',M',h=>by
  unfold stepA at h
  split at h
  ·cases h
  ·rename_i hc
   obtain ⟨⟨T,e1⟩,e2,e3,e4,e5⟩:=stepA_grow A ac _ _ S' M' h
   have hidx:S.length≤60→S.idxOf (A a)<60:=fun h60=>by
    by_cases hm:A a∈S
    ·have:=List.idxOf_lt_length_of_mem hm;omega
    ·have h1:S.length≠60:=fun e=>hc ⟨hm,e⟩
     have:=List.idxOf_le_length (a:=A a) (l:=S)
     omega
   by_cases hm:A a∈S
   ·rw [if_pos hm] at e1 e3 e4 e5
    refine ⟨⟨T,e1⟩,by rw [e2];simp,e3,fun h60 hM=>e4 h60 fun m hmm=>?_,fun x hx=>?_⟩
    ·rcases List.mem_append.1 hmm with q|q
     ·exact hM m q
     ·obtain rfl:=List.mem_singleton.1 q
      have:=hidx h60
      exact ⟨by show (0:Int)≤((S.idxOf (A a):Nat):Int);omega,by show ((S.idxOf (A a):Nat):Int)<60;omega⟩
    ·rcases e5 x hx with q|⟨b,hb,q⟩
     ·exact .inl q
     ·exact .inr ⟨b,.tail _ hb,q⟩
   ·rw [if_neg hm] at e1 e3 e4 e5
    have hl:(S++[A a]).length=S.length+1:=by simp
    have hne:S.length≠60:=fun e=>hc ⟨hm,e⟩
    refine ⟨⟨[A a]++T,by rw [e1,List.append_assoc]⟩,by rw [e2];simp,fun h60=>e3 (by omega),fun h60 hM=>e4 (by omega) fun m hmm=>?_,fun x hx=>?_⟩
    ·rcases List.mem_append.1 hmm with q|q
     ·exact hM m q
     ·obtain rfl:=List.mem_singleton.1 q
      have:=hidx h60
      exact ⟨by show (0:Int)≤((S.idxOf (A a):Nat):Int);omega,by show ((S.idxOf (A a):Nat):Int)<60;omega⟩
    ·rcases e5 x hx with q|⟨b,hb,q⟩
     ·rcases List.mem_append.1 q with q|q
      ·exact .inl q
      ·exact .inr ⟨a,.head _,List.mem_singleton.1 q⟩
     ·exact .inr ⟨b,.tail _ hb,q⟩
theorem idx_pre {α:Type} [BEq α] [LawfulBEq α] {x:α} {S T:List α} (h:x∈S):(S++T).idxOf x=S.idxOf x:=by
 rw [List.idxOf_append,if_pos h]
theorem idx_snoc {α:Type} [BEq α] [LawfulBEq α] {x:α} {S:List α} (h:x∉S):(S++[x]).idxOf x=S.length:=by
 rw [List.idxOf_append,if_neg h,List.idxOf_cons,beq_self_eq_true,cond_true,Nat.zero_add]
theorem stepA_idx (A:Int→List Int):∀(ac:List Int) (S:List (List Int)) (M:List Move) (S':List (List Int)) (M':List Move),stepA A ac S M=some (S',M')→
  (∀a∈ac,A a∈S')∧M'=M++ac.map fun a=>⟨a,((S'.idxOf (A a):Nat):Int)⟩
 |[],S,M,S',M',h=>by
  obtain ⟨rfl,rfl⟩:=Prod.mk.inj (Option.some.inj h)
  exact ⟨fun a h=>(by cases h),by simp⟩
 |a::ac,S,M,S',M',h=>by
  have hh:=h
  unfold stepA at h
  split at h
  ·cases h
  ·obtain ⟨h1,h2⟩:=stepA_idx A ac _ _ S' M' h
   obtain ⟨⟨T,e1⟩,-⟩:=stepA_grow A ac _ _ S' M' h
   have hin:A a∈(if A a∈S then S else S++[A a])∧(if A a∈S then S else S++[A a]).idxOf (A a)=S.idxOf (A a):=by
    by_cases hm:A a∈S
    ·rw [if_pos hm];exact ⟨hm,rfl⟩
    ·rw [if_neg hm]
     refine ⟨by simp,?_⟩
     rw [idx_snoc hm,List.idxOf_eq_length hm]
   have hS':A a∈S':=by rw [e1];exact List.mem_append_left _ hin.1
   have hi:S'.idxOf (A a)=S.idxOf (A a):=by rw [e1,idx_pre hin.1,hin.2]
   refine ⟨fun b hb=>?_,?_⟩
   ·rcases List.mem_cons.1 hb with rfl|hb
    ·exact hS'
    ·exact h1 b hb
   ·rw [h2,List.map_cons,hi,List.append_assoc];rfl
theorem rises_risesM {M:List Move} (h:Rises (M.map Move.act)):RisesM M:=by
 unfold Rises at h
 rw [List.pairwise_map] at h
 exact h.imp fun {a b} hab=>by unfold lessM;simp only [decide_eq_true_eq];omega
theorem tidyM_self {M:List Move} (h:RisesM M):tidyM M=M:=risesM_ext (tidyM_rises M) h fun x=>tidyM_mem M x
end Go.Proofs.YtfdcjocallblcaaGreatDoor.Ev
namespace Go.Proofs.YtfdcjocallblcaaGreatDoor.Ev
open Go
set_option linter.unusedVariables false
set_option linter.unusedSimpArgs false
theorem idx_not {α:Type} [BEq α] [LawfulBEq α] {a:α}:∀{l:List α},a∉l→l.idxOf a=l.length
 |[],_=>rfl
 |b::l,h=>by
  have hne:(b==a)=false:=beq_eq_false_iff_ne.2 fun e=>h (by rw [e];exact .head _)
  rw [List.idxOf_cons,hne,cond_false,idx_not fun hm=>h (.tail _ hm)];rfl
def Fits (ms:List (List Move)) (q:List Int):Prop:=Row ms q fun t=>(t:Int)∈q
theorem Row.fits {ms:List (List Move)} {q:List Int} {X:Nat→Prop} (h:Row ms q X):Fits ms q:=⟨h.1,h.2.1,fun _=>Iff.rfl,h.2.2.2⟩
theorem Fits.key {ms:List (List Move)} (hm:Leads ms) {q:List Int} (h:Fits ms q):q.length≤60∧∀v∈q,0≤v∧v<60:=by
 have hn:=hm.1
 have h1:=h.1
 exact ⟨by omega,fun v hv=>by have:=h.2.1 v hv;omega⟩
section
variable (L N : Nat) (ms : List (List Move))
def aftA (q:List Int) (a:Int):List Int:=(f46 L N ⟨ms⟩ q a).getD []
theorem aftA_ok (hm:Leads ms) (hL:8589934592≤L) (q:List Int) (hq:Fits ms q) (a:Int):f46 L N ⟨ms⟩ q a=some (aftA L N ms q a)∧Row ms (aftA L N ms q a) (Slip ms (StepX ms (fun t=>(t:Int)∈q) a)):=by
 obtain ⟨q',e,h⟩:=after_row L N ms q _ a hm hq (by omega)
 unfold aftA
 rw [e]
 exact ⟨rfl,h⟩
theorem aftA_some (hm:Leads ms) (hL:8589934592≤L) (q:List Int) (hq:Fits ms q) (a:Int):aftA L N ms q a≠[]↔∃t,StepX ms (fun t=>(t:Int)∈q) a t:=by
 obtain ⟨-,h⟩:=aftA_ok L N ms hm hL q hq a
 rw [←List.length_pos_iff,h.some]
 exact ⟨fun ⟨t,ht⟩=>slip_some ht,fun ⟨t,ht⟩=>⟨t,.base t ht⟩⟩
theorem moves1_ok (hm:Leads ms) (hact:∀(i:Nat) (hi:i<ms.length),∀m∈ms[i],-4≤m.act∧m.act≤4) (hL:8589934592≤L) (q:List Int) (hq:Fits ms q):
  ∃ac,f44_1 L N q ms=some (ac,ac.map (aftA L N ms q),true)∧Rises ac∧ac.length≤100000000∧(∀a,a∈ac↔a≠0∧aftA L N ms q a≠[])∧∀a∈ac,-4≤a∧a≤4:=by
 have hlim:=lim_eq
 obtain ⟨ac,e1,e2,e3,e4⟩:=actsOf_ok L N ms hm q _ hq (by omega)
 refine ⟨ac,?_,e2,e3,fun a=>(e4 a).trans (and_congr Iff.rfl (aftA_some L N ms hm hL q hq a).symm),fun a ha=>?_⟩
 ·show f44_1.b L N (fun a0 a1 a2=>some (a0,a1,a2)) q ms=_
  unfold f44_1.b f44_1.b'
  rw [e1,Option.bind_some]
  have key:∀(n j:Nat) (out:List (List Int)),j≤ac.length→ac.length-j<n→out.length≤j→
    f44_1.l0 L N (fun z8 z9=>f44_1.p0_e0 L N (fun a0 a1 a2=>some (a0,a1,a2)) z8 z9) n q ms ac ac (ac.length:Int) (j:Int) out=some (ac,out++(ac.drop j).map (aftA L N ms q),true):=by
   intro n
   induction n with
   |zero=>intro j out _ h;omega
   |succ n ih=>
    intro j out hj hn ho
    show f44_1.s0 L N _ (f44_1.l0 L N _ n) q ms ac ac (ac.length:Int) (j:Int) out=_
    unfold f44_1.s0 f44_1.s0'
    by_cases hlt:j<ac.length
    ·have ha:=(aftA_ok L N ms hm hL q hq ac[j]).1
     have hle:decide (out.length+([aftA L N ms q ac[j]]:List (List Int)).length≤lim)=true:=dt (by simp only [List.length_cons,List.length_nil];omega)
     simp only [lt_cast hlt,le0,Bool.and_true,cond_true,Int.toNat_natCast,at_lt hlt,ha,Option.bind_some,hle]
     rw [wi_nat (by omega),ih (j+1) _ (by omega) (by omega) (by simp;omega),List.drop_eq_getElem_cons hlt,List.map_cons,List.append_assoc];rfl
    ·rw [ge_cast hlt,cond_false,List.drop_eq_nil_of_le (by omega)]
     show some (ac,out,true)=_
     rw [List.map_nil,List.append_nil]
  have:=key L 0 [] (by omega) (by omega) (by simp)
  rw [List.drop_zero,List.nil_append] at this
  exact this
 ·obtain ⟨h0,t,s,hs,hsl,k,hk,rfl,ht⟩:=(e4 a).1 ha
  exact hact s hsl _ (List.getElem_mem hk)
theorem inI {R:Type} (hm:Leads ms) (hL:8589934592≤L) (K2:List (List Move)→Int→List (List Int)→List (ByteArray×Int)→List Move→List (List Move)→List (List Move)→Option R) (Kr:List (List Move)→Bool→Int→List (List Int)→List (ByteArray×Int)→List Move→List (List Move)→List (List Move)→Option R)
  (k:Int) (ac:List Int) (hac:ac.length≤100000000) (A:Int→List Int) (hv:∀a,(A a).length≤60∧∀v∈A a,0≤v∧v<60) (r1 r2:List (List Move)):
  ∀(n j:Nat) (S:List (List Int)) (es:List (ByteArray×Int)) (M:List Move),j≤ac.length→ac.length-j<n→Places S es→S.length≤60→M.length≤j→
   match stepA A (ac.drop j) S M with
   |some (S',M')=>∃es',Places S' es'∧f41_1.l1 L N K2 Kr n ms k ac (ac.map A) ((ac.map A).length:Int) (j:Int) S es M r1 r2=K2 ms k S' es' M' r1 r2
   |none=>∃S' es' M',f41_1.l1 L N K2 Kr n ms k ac (ac.map A) ((ac.map A).length:Int) (j:Int) S es M r1 r2=Kr ms false k S' es' M' r1 r2:=by
 have hlim:=lim_eq
 intro n
 induction n with
 |zero=>intro j S es M _ h;omega
 |succ n ih=>
  intro j S es M hj hn hp hS hM
  have hu:f41_1.l1 L N K2 Kr (n+1) ms k ac (ac.map A) ((ac.map A).length:Int) (j:Int) S es M r1 r2=f41_1.s1 L N K2 Kr (f41_1.l1 L N K2 Kr n) ms k ac (ac.map A) ((ac.map A).length:Int) (j:Int) S es M r1 r2:=rfl
  rw [hu]
  unfold f41_1.s1 f41_1.s1'
  by_cases hlt:j<ac.length
  ·have hlm:j<(ac.map A).length:=by rw [List.length_map];exact hlt
   have hat:(ac.map A)[j]=A ac[j]:=by rw [List.getElem_map]
   have hkey:=setKey_ok L N (A ac[j]) (hv _).1 (hv _).2 (by omega)
   have hf:=hp (A ac[j]) (hv _).2
   have hle:decide (M.length+([(⟨ac[j],((S.idxOf (A ac[j]):Nat):Int)⟩:Move)]:List Move).length≤lim)=true:=dt (by simp only [List.length_cons,List.length_nil];omega)
   rw [List.drop_eq_getElem_cons hlt]
   unfold stepA
   by_cases hmem:A ac[j]∈S
   ·rw [if_pos hmem] at hf
    simp only [lt_cast hlm,le0,Bool.and_true,cond_true,Int.toNat_natCast,at_lt hlm,hat,hkey,Option.bind_some,hf]
    rw [if_neg (fun h=>h.1 hmem),if_pos hmem,Option.isSome_some,Bool.not_true,cond_false]
    unfold f41_1.j0'
    simp only [lt_cast hlt,le0,Bool.and_true,cond_true,Int.toNat_natCast,at_lt hlt,Option.getD_some,hle]
    rw [wi_nat (by omega)]
    exact ih (j+1) S es _ (by omega) (by omega) hp hS (by simp;omega)
   ·have hidx:=idx_not hmem
    rw [if_neg hmem] at hf
    simp only [lt_cast hlm,le0,Bool.and_true,cond_true,Int.toNat_natCast,at_lt hlm,hat,hkey,Option.bind_some,hf]
    rw [Option.isSome_none,Bool.not_false,cond_true]
    by_cases h60:S.length=60
    ·have hb:((S.length:Int)==60)=true:=beq_iff_eq.2 (by omega)
     rw [if_pos ⟨hmem,h60⟩,hb,cond_true]
     exact ⟨_,_,_,rfl⟩
    ·have hb:((S.length:Int)==60)=false:=beq_eq_false_iff_ne.2 (by omega)
     have hl2:decide (S.length+([A ac[j]]:List (List Int)).length≤lim)=true:=dt (by simp only [List.length_cons,List.length_nil];omega)
     rw [if_neg (fun h=>h60 h.2),if_neg hmem,hb,cond_false,hl2,cond_true]
     unfold f41_1.j0'
     rw [hidx] at hle⊢
     simp only [lt_cast hlt,le0,Bool.and_true,cond_true,Int.toNat_natCast,at_lt hlt,hle]
     rw [wi_nat (by omega)]
     exact ih (j+1) _ _ _ (by omega) (by omega) (hp.add (hv _).2 hmem) (by simp;omega) (by simp;omega)
  ·have hlm:¬j<(ac.map A).length:=by rw [List.length_map];exact hlt
   rw [ge_cast hlm,cond_false,List.drop_eq_nil_of_le (by omega)]
   exact ⟨es,hp,rfl⟩
end
end Go.Proofs.YtfdcjocallblcaaGreatDoor.Ev
namespace Go.Proofs.YtfdcjocallblcaaGreatDoor.Ev
open Go
set_option linter.unusedVariables false
set_option linter.unusedSimpArgs false
def GoodRows (L N:Nat) (ms:List (List Move)) (S:List (List Int)) (rows:List (List Move)):Prop:=
 ∀(j:Nat) (hj:j<rows.length),∃ac:List Int,Rises ac∧(∀a,a∈ac↔a≠0∧aftA L N ms (S.getD j []) a≠[])∧(∀a∈ac,-4≤a∧a≤4)∧(∀a∈ac,aftA L N ms (S.getD j []) a∈S)∧rows[j]=ac.map fun a=>⟨a,((S.idxOf (aftA L N ms (S.getD j []) a):Nat):Int)⟩
theorem GoodRows.grow {L N:Nat} {ms:List (List Move)} {S T:List (List Int)} {rows:List (List Move)} (h:GoodRows L N ms S rows) (hl:rows.length≤S.length):GoodRows L N ms (S++T) rows:=fun j hj=>by
 obtain ⟨ac,h1,h2,h3,h4,h5⟩:=h j hj
 have e:(S++T).getD j []=S.getD j []:=by
  rw [List.getD_eq_getElem?_getD,List.getD_eq_getElem?_getD,List.getElem?_append_left (by omega)]
 rw [←e] at h2 h4 h5
 refine ⟨ac,h1,h2,h3,fun a ha=>List.mem_append_left _ (h4 a ha),?_⟩
 rw [h5]
 exact List.map_congr_left fun a ha=>by rw [idx_pre (h4 a ha)]
theorem sure_loop (L N:Nat) (ms:List (List Move)) (hm:Leads ms) (hact:∀(i:Nat) (hi:i<ms.length),∀m∈ms[i],-4≤m.act∧m.act≤4) (hL:8589934592≤L):
  ∀(d k:Nat) (S:List (List Int)) (es:List (ByteArray×Int)) (rows:List (List Move)),S.length≤60→61≤k+d→k≤S.length→Places S es→(∀x∈S,Fits ms x)→rows.length=k→(∀r∈rows,r.length≤540)→GoodRows L N ms S rows→(∀x∈S,x≠[])→
   ∀n1,d≤n1→∃(res:List (List Move)) (ok:Bool),
    f41_1.l0 L N (fun z7 z8=>f41_1.p0_e0 L N (fun a0 a1=>some (a0,a1)) z7 z8) (fun z10 z11 z12=>f41_1.p0_r L N (fun a0 a1=>some (a0,a1)) z10 z11 z12) n1 ms (k:Int) S es [] rows=some (res,ok)∧
    res.length≤60∧(∀r∈res,r.length≤540)∧(ok=true→∃T,res.length=(S++T).length∧GoodRows L N ms (S++T) res∧(∀x∈S++T,Fits ms x)∧∀x∈S++T,x≠[])∧(ok=false→res=[]):=by
 have hlim:=lim_eq
 intro d
 induction d with
 |zero=>intro k S es rows hS hd hk;omega
 |succ d ih=>
  intro k S es rows hS hd hk hp hfit hrl hr540 hgood hsne n1 hn1
  obtain ⟨n1,rfl⟩:∃n',n1=n'+1:=⟨n1-1,by omega⟩
  show ∃res ok,f41_1.s0 L N (fun z7 z8=>f41_1.p0_e0 L N (fun a0 a1=>some (a0,a1)) z7 z8) (fun z10 z11 z12=>f41_1.p0_r L N (fun a0 a1=>some (a0,a1)) z10 z11 z12) (f41_1.l0 L N (fun z7 z8=>f41_1.p0_e0 L N (fun a0 a1=>some (a0,a1)) z7 z8) (fun z10 z11 z12=>f41_1.p0_r L N (fun a0 a1=>some (a0,a1)) z10 z11 z12) n1) ms (k:Int) S es [] rows=some (res,ok)∧_
  unfold f41_1.s0 f41_1.s0'
  by_cases hlt:k<S.length
  ·have hq:=hfit _ (List.getElem_mem hlt)
   obtain ⟨ac,m1,m2,m3,m4,m5⟩:=moves1_ok L N ms hm hact hL S[k] hq
   have hv:∀a,(aftA L N ms S[k] a).length≤60∧∀v∈aftA L N ms S[k] a,0≤v∧v<60:=fun a=>Fits.key hm (aftA_ok L N ms hm hL S[k] hq a).2.fits
   simp only [lt_cast hlt,le0,Bool.and_true,cond_true,Int.toNat_natCast,at_lt hlt,m1,Option.bind_some,Bool.not_true,cond_false]
   have hI:=inI L N ms hm hL (fun z24 z25 z26 z27 z28 z29 z30=>f41_1.p1_e2 L N (fun z7 z8=>f41_1.p0_e0 L N (fun a0 a1=>some (a0,a1)) z7 z8) (fun z10 z11 z12=>f41_1.p0_r L N (fun a0 a1=>some (a0,a1)) z10 z11 z12) (f41_1.l0 L N (fun z7 z8=>f41_1.p0_e0 L N (fun a0 a1=>some (a0,a1)) z7 z8) (fun z10 z11 z12=>f41_1.p0_r L N (fun a0 a1=>some (a0,a1)) z10 z11 z12) n1) z24 z25 z26 z27 z28 z29 z30) (fun z32 z33 z34 z35 z36 z37 z38 z39=>f41_1.p1_r L N (fun z7 z8=>f41_1.p0_e0 L N (fun a0 a1=>some (a0,a1)) z7 z8) (fun z10 z11 z12=>f41_1.p0_r L N (fun a0 a1=>some (a0,a1)) z10 z11 z12) (f41_1.l0 L N (fun z7 z8=>f41_1.p0_e0 L N (fun a0 a1=>some (a0,a1)) z7 z8) (fun z10 z11 z12=>f41_1.p0_r L N (fun a0 a1=>some (a0,a1)) z10 z11 z12) n1) z32 z33 z34 z35 z36 z37 z38 z39)
    (k:Int) ac m3 (aftA L N ms S[k]) hv [] rows L 0 S es [] (by omega) (by omega) hp hS (by simp)
   rw [List.drop_zero] at hI
   cases hst:stepA (aftA L N ms S[k]) ac S [] with
   |none=>
    rw [hst] at hI
    obtain ⟨S1,es1,M1,i1⟩:=hI
    exact ⟨[],false,(show _=_ from i1).trans rfl,by simp,by simp,fun h=>(by cases h),fun _=>rfl⟩
   |some p=>
    obtain ⟨S',M'⟩:=p
    rw [hst] at hI
    obtain ⟨es',p1,i1⟩:=hI
    obtain ⟨⟨T,g1⟩,g2,g3,g4,g5⟩:=stepA_grow _ ac S [] S' M' hst
    rw [List.map_nil,List.nil_append] at g2
    have hrm:RisesM M':=rises_risesM (by rw [g2];exact m2)
    have hml:M'.length≤540:=risesM_len hrm fun m hmm=>by
     have h1:=m5 m.act (by rw [←g2];exact List.mem_map_of_mem hmm)
     have h2:=g4 hS (fun m h=>by cases h) m hmm
     omega
    have hS':=g3 hS
    obtain ⟨x1,x2⟩:=stepA_idx _ ac S [] S' M' hst
    have hgood':GoodRows L N ms S' (rows++[M']):=by
     intro j hj
     by_cases hjk:j<rows.length
     ·rw [List.getElem_append_left hjk,g1]
      exact hgood.grow (by omega) j hjk
     ·have hjk:j=rows.length:=by simp at hj;omega
      subst hjk
      have hSk:S'.getD rows.length []=S[k]:=by
       rw [g1,List.getD_eq_getElem?_getD,List.getElem?_append_left (by omega),hrl,List.getElem?_eq_getElem hlt];rfl
      refine ⟨ac,m2,fun a=>?_,m5,fun a ha=>?_,?_⟩
      ·rw [hSk];exact m4 a
      ·rw [hSk];exact x1 a ha
      ·rw [List.getElem_append_right (Nat.le_refl _),hSk]
       simp only [Nat.sub_self,List.getElem_cons_zero]
       rw [x2,List.nil_append]
    have hsne':∀x∈S',x≠[]:=fun x hx=>by
     rcases g5 x hx with h|⟨a,ha,rfl⟩
     ·exact hsne x h
     ·exact ((m4 a).1 ha).2
    have hle:decide (rows.length+([M']:List (List Move)).length≤lim)=true:=dt (by simp only [List.length_cons,List.length_nil];omega)
    obtain ⟨res,ok,j1,j3,j4,j5,j6⟩:=ih (k+1) S' es' (rows++[M']) hS' (by omega) (by rw [g1,List.length_append];omega) p1 (fun x hx=>by
     rcases g5 x hx with h|⟨a,-,rfl⟩
     ·exact hfit x h
     ·exact (aftA_ok L N ms hm hL S[k] hq a).2.fits) (by simp;omega) (fun r hr=>by
     rcases List.mem_append.1 hr with h|h
     ·exact hr540 r h
     ·obtain rfl:=List.mem_singleton.1 h;exact hml) hgood' hsne' n1 (by omega)
    refine ⟨res,ok,(show _=_ from i1).trans ?_,j3,j4,fun hok=>?_,j6⟩
    rotate_left 1
    ·obtain ⟨U,u1,u2,u3,u4⟩:=j5 hok
     rw [g1,List.append_assoc] at u1 u2 u3 u4
     exact ⟨T++U,u1,u2,u3,u4⟩
    ·show f41_1.p1_e2 L N _ _ _ ms (k:Int) S' es' M' [] rows=_
     unfold f41_1.p1_e2 f41_1.p1_e2' fsortM
     rw [dt (show M'.length≤lim by omega),cond_true,Option.bind_some,tidyM_self hrm,hle,cond_true,wi_nat (by omega)]
     exact j1
  ·rw [ge_cast hlt,cond_false]
   exact ⟨rows,true,rfl,by omega,hr540,fun _=>⟨[],by rw [List.append_nil];omega,by rw [List.append_nil];exact hgood,by rw [List.append_nil];exact hfit,by rw [List.append_nil];exact hsne⟩,fun h=>by cases h⟩
abbrev sgOut (rows:List (List Move)):Graph:=⟨rows⟩
theorem sureGraph_eq (L N:Nat) (g:Graph) (hg:g.moves.length+gsize g.moves≤1048576) (hL:8589934592≤L):
  ∃(rows:List (List Move)) (ok:Bool),f18 L N g=some (sgOut rows,ok)∧rows.length+gsize rows≤1048576∧rows.length≤60∧(∀r∈rows,r.length≤540)∧(ok=true→graphOk g=true∧∃S:List (List Int),rows.length=S.length∧1≤S.length∧GoodRows L N g.moves S rows∧(∀x∈S,Fits g.moves x)∧(∀x∈S,x≠[])∧Row g.moves (S.getD 0 []) (Slip g.moves fun x=>x=0))∧(ok=false→rows=[]):=by
 have hlim:=lim_eq
 have hge:Graph.mk g.moves=g:=by cases g;rfl
 have h1:=gok1_ok L N g (by omega) hg
 cases hok:graphOk g with
 |false=>
  refine ⟨[],false,?_,by simp [gsize],by simp,by simp,fun h=>(by cases h),fun _=>rfl⟩
  ·show f18.b' L N (fun a0 a1=>some (a0,a1)) g=_
   unfold f18.b'
   rw [hge,h1,Option.bind_some,hok,Bool.not_false,cond_true]
 |true=>
  have hm:=leads_of hok hg
  obtain ⟨hn1,hn2,hmv⟩:=graphOk_mv hok
  have hact:∀(i:Nat) (hi:i<g.moves.length),∀m∈g.moves[i],-4≤m.act∧m.act≤4:=fun i hi m hm'=>by
   obtain ⟨k,hk,rfl⟩:=List.mem_iff_getElem.1 hm'
   have:=hmv i hi k hk
   exact ⟨this.1,this.2.1⟩
  obtain ⟨q,b1,b2⟩:=behI L N g.moves [] hm hn1 (by simp) (by omega)
  rw [hge] at b1
  have hqf:=b2.fits
  have hkey:=Fits.key hm hqf
  have hk0:=setKey_ok L N q hkey.1 hkey.2 (by omega)
  have hqne:q≠[]:=List.ne_nil_of_length_pos (b2.some.2 ⟨0,.base 0 rfl⟩)
  obtain ⟨res,ok,e1,e3,e4,e5,e6⟩:=sure_loop L N g.moves hm hact hL 61 0 [q] (mapPut .str i64 (keyB q) (0:Int) []) [] (by simp) (by omega) (by simp)
   (by have:=Places.nil.add (y:=q) hkey.2 (by simp);exact this) (fun x hx=>by obtain rfl:=List.mem_singleton.1 hx;exact hqf) rfl (fun r hr=>by cases hr) (fun j hj=>by simp at hj) (fun x hx=>by obtain rfl:=List.mem_singleton.1 hx;exact hqne) L (by omega)
  have hgs:=gsize_le e4
  refine ⟨res,ok,?_,by omega,e3,e4,fun hok'=>?_,e6⟩
  rotate_left 1
  ·obtain ⟨T,t1,t2,t3,t4⟩:=e5 hok'
   exact ⟨(by trivial),[q]++T,t1,by simp,t2,t3,t4,b2⟩
  ·show f18.b' L N (fun a0 a1=>some (a0,a1)) g=_
   unfold f18.b'
   have hb:f41_1 L N q g.moves=some (res,ok):=by
    show f41_1.b L N (fun a0 a1=>some (a0,a1)) q g.moves=_
    unfold f41_1.b f41_1.b'
    rw [hk0,Option.bind_some]
    exact e1
   rw [hge,h1,Option.bind_some,hok,Bool.not_true,cond_false,b1,Option.bind_some,hb,Option.bind_some]
end Go.Proofs.YtfdcjocallblcaaGreatDoor.Ev
namespace Go.Proofs.YtfdcjocallblcaaGreatDoor.Ev
open Go
set_option linter.unusedVariables false
set_option linter.unusedSimpArgs false
structure SureOf (ms rows:List (List Move)) (S:Nat→Nat→Prop):Prop where
 pos:1≤rows.length
 first:∀t,S 0 t↔Slip ms (fun x=>x=0) t
 some:∀j,j<rows.length→∃t,S j t
 calm:∀j a k,Mv rows j a k→a≠0
 to:∀j a k,Mv rows j a k→k<rows.length∧∀t,S k t↔Slip ms (StepX ms (S j) a) t
 all:∀j,j<rows.length→∀a,a≠0→(∃t,StepX ms (S j) a t)→∃k,Mv rows j a k
 one:∀j a k k',Mv rows j a k→Mv rows j a k'→k=k'
theorem SureOf.slip {ms rows:List (List Move)} {S:Nat→Nat→Prop} (h:SureOf ms rows S) {X:Nat→Prop} {t:Nat}:Slip rows X t↔X t:=by
 constructor
 ·intro hs
  refine slip_ind (P:=X) (fun t hx=>hx) (fun s t _ hmv=>absurd rfl (h.calm s 0 t hmv)) hs
 ·exact fun hx=>.base t hx
theorem beh_empty {ms:List (List Move)}:∀{w:List Int} {X:Nat→Prop},(∀t,¬X t)→∀t,¬Beh ms X w t
 |[],X,h,t,ht=>h t ht
 |a::w,X,h,t,ht=>by
  refine beh_empty (w:=w) (fun u hu=>?_) t ht
  obtain ⟨v,s,hs,-⟩:=slip_some hu
  exact h s hs
theorem SureOf.beh {ms rows:List (List Move)} {S:Nat→Nat→Prop} (h:SureOf ms rows S):∀(w:List Int),(∀a∈w,a≠0)→∀j,j<rows.length→
  (∃k,k<rows.length∧(∀u,Beh rows (fun x=>x=j) w u↔u=k)∧∀t,Beh ms (S j) w t↔S k t)∨((∀u,¬Beh rows (fun x=>x=j) w u)∧∀t,¬Beh ms (S j) w t)
 |[],_,j,hj=>.inl ⟨j,hj,fun u=>Iff.rfl,fun t=>Iff.rfl⟩
 |a::w,hw,j,hj=>by
  have ha:=hw a (.head _)
  by_cases hk:∃k,Mv rows j a k
  ·obtain ⟨k,hmv⟩:=hk
   obtain ⟨hkl,hS⟩:=h.to j a k hmv
   have e1:∀u,Slip rows (StepX rows (fun x=>x=j) a) u↔u=k:=fun u=>by
    rw [h.slip]
    constructor
    ·rintro ⟨s,rfl,hm⟩;exact h.one _ a u k hm hmv
    ·rintro rfl;exact ⟨j,rfl,hmv⟩
   have e2:∀t,Slip ms (StepX ms (S j) a) t↔S k t:=fun t=>(hS t).symm
   rcases h.beh w (fun b hb=>hw b (.tail _ hb)) k hkl with ⟨l,h1,h2,h3⟩|⟨h1,h2⟩
   ·exact .inl ⟨l,h1,fun u=>(Beh.congr e1 u).trans (h2 u),fun t=>(Beh.congr e2 t).trans (h3 t)⟩
   ·exact .inr ⟨fun u hu=>h1 u ((Beh.congr e1 u).1 hu),fun t ht=>h2 t ((Beh.congr e2 t).1 ht)⟩
  ·refine .inr ⟨beh_empty (w:=w) fun u hu=>?_,beh_empty (w:=w) fun u hu=>?_⟩
   ·obtain ⟨s,rfl,hm⟩:=h.slip.1 hu
    exact hk ⟨u,hm⟩
   ·obtain ⟨v,hv⟩:=slip_some hu
    exact hk (h.all j hj a ha ⟨v,hv⟩)
theorem SureOf.words {ms rows:List (List Move)} {S:Nat→Nat→Prop} (h:SureOf ms rows S) (w:List Int) (hw:∀a∈w,a≠0):
  (∃k,k<rows.length∧(∀u,Beh rows (Slip rows fun x=>x=0) w u↔u=k)∧∀t,Beh ms (Slip ms fun x=>x=0) w t↔S k t)∨((∀u,¬Beh rows (Slip rows fun x=>x=0) w u)∧∀t,¬Beh ms (Slip ms fun x=>x=0) w t):=by
 have e1:∀u,Slip rows (fun x=>x=0) u↔u=0:=fun u=>h.slip
 have e2:∀t,Slip ms (fun x=>x=0) t↔S 0 t:=fun t=>(h.first t).symm
 rcases h.beh w hw 0 h.pos with ⟨l,h1,h2,h3⟩|⟨h1,h2⟩
 ·exact .inl ⟨l,h1,fun u=>(Beh.congr e1 u).trans (h2 u),fun t=>(Beh.congr e2 t).trans (h3 t)⟩
 ·exact .inr ⟨fun u hu=>h1 u ((Beh.congr e1 u).1 hu),fun t ht=>h2 t ((Beh.congr e2 t).1 ht)⟩
theorem SureOf.same {ms rows:List (List Move)} {S:Nat→Nat→Prop} (h:SureOf ms rows S) (w:List Int) (hw:∀a∈w,a≠0):(∃t,Beh ms (Slip ms fun x=>x=0) w t)↔∃u,Beh rows (Slip rows fun x=>x=0) w u:=by
 rcases h.words w hw with ⟨k,h1,h2,h3⟩|⟨h1,h2⟩
 ·obtain ⟨t,ht⟩:=h.some k h1
  exact ⟨fun _=>⟨k,(h2 k).2 rfl⟩,fun _=>⟨t,(h3 t).2 ht⟩⟩
 ·exact ⟨fun ⟨t,ht⟩=>absurd ht (h2 t),fun ⟨u,hu⟩=>absurd hu (h1 u)⟩
end Go.Proofs.YtfdcjocallblcaaGreatDoor.Ev
namespace Go.Proofs.YtfdcjocallblcaaGreatDoor.Ev
open Go
set_option linter.unusedVariables false
set_option linter.unusedSimpArgs false
structure SureIn (L N:Nat) (ms:List (List Move)) (S:List (List Int)) (rows:List (List Move)):Prop where
 len:rows.length=S.length
 pos:1≤S.length
 good:GoodRows L N ms S rows
 fits:∀x∈S,Fits ms x
 ne:∀x∈S,x≠[]
 first:Row ms (S.getD 0 []) (Slip ms fun x=>x=0)
theorem SureIn.mem {L N:Nat} {ms:List (List Move)} {S:List (List Int)} {rows:List (List Move)} (h:SureIn L N ms S rows) {j:Nat} (hj:j<rows.length):S.getD j []∈S:=by
 have hl:=h.len
 have:j<S.length:=by omega
 rw [getD_lt this];exact List.getElem_mem this
theorem SureIn.act {L N:Nat} {ms:List (List Move)} {S:List (List Int)} {rows:List (List Move)} (h:SureIn L N ms S rows) {j:Nat} (hj:j<rows.length) {m:Move} (hm:m∈rows[j]):
  m.act≠0∧-4≤m.act∧m.act≤4∧aftA L N ms (S.getD j []) m.act∈S∧m.to=((S.idxOf (aftA L N ms (S.getD j []) m.act):Nat):Int):=by
 obtain ⟨ac,h1,h2,h3,h4,h5⟩:=h.good j hj
 rw [h5] at hm
 obtain ⟨a,ha,rfl⟩:=List.mem_map.1 hm
 exact ⟨((h2 a).1 ha).1,(h3 a ha).1,(h3 a ha).2,h4 a ha,rfl⟩
theorem SureIn.rises {L N:Nat} {ms:List (List Move)} {S:List (List Int)} {rows:List (List Move)} (h:SureIn L N ms S rows) {j:Nat} (hj:j<rows.length):Rises ((rows[j]).map Move.act):=by
 obtain ⟨ac,h1,h2,h3,h4,h5⟩:=h.good j hj
 rw [h5,List.map_map]
 have:(Move.act∘fun a=>(⟨a,((S.idxOf (aftA L N ms (S.getD j []) a):Nat):Int)⟩:Move))=id:=rfl
 rw [this,List.map_id];exact h1
theorem SureIn.graph {L N:Nat} {ms:List (List Move)} {S:List (List Int)} {rows:List (List Move)} (h:SureIn L N ms S rows) (h60:rows.length≤60):graphOk ⟨rows⟩=true:=by
 have hl:=h.len
 have hp:=h.pos
 refine graphOk_mk (by omega) h60 fun i hi=>⟨rises_risesM (h.rises hi),fun m hm=>?_⟩
 obtain ⟨-,a1,a2,a3,a4⟩:=h.act hi hm
 have:=List.idxOf_lt_length_of_mem a3
 unfold mvOk
 rw [dt ⟨a1,a2⟩,dt (show 0≤m.to∧m.to<(rows.length:Int) by omega)];rfl
theorem SureIn.of {L N:Nat} {ms:List (List Move)} (hm:Leads ms) (hL:8589934592≤L) {S:List (List Int)} {rows:List (List Move)} (h:SureIn L N ms S rows):SureOf ms rows fun j t=>(t:Int)∈S.getD j []:=by
 have hl:=h.len
 have hp:=h.pos
 have key:∀j a k,Mv rows j a k→∃hj:j<rows.length,a≠0∧aftA L N ms (S.getD j []) a∈S∧k=S.idxOf (aftA L N ms (S.getD j []) a):=fun j a k ⟨hj,i,hi,e1,e2⟩=>by
  obtain ⟨a0,-,-,a3,a4⟩:=h.act hj (List.getElem_mem hi)
  rw [e1] at a0 a3 a4
  rw [e2] at a4
  exact ⟨hj,a0,a3,by omega⟩
 refine ⟨by omega,fun t=>h.first.2.2.1 t,fun j hj=>?_,fun j a k hmv=>(key j a k hmv).2.1,fun j a k hmv=>?_,fun j hj a ha ⟨t,ht⟩=>?_,fun j a k k' h1 h2=>by rw [(key j a k h1).2.2.2,(key j a k' h2).2.2.2]⟩
 ·have hmem:=h.mem hj
  obtain ⟨v,hv⟩:=List.exists_mem_of_ne_nil _ (h.ne _ hmem)
  obtain ⟨t,rfl⟩:=Int.eq_ofNat_of_zero_le ((h.fits _ hmem).2.1 v hv).1
  exact ⟨t,hv⟩
 ·obtain ⟨hj,a0,a3,a4⟩:=key j a k hmv
  have hk:=List.idxOf_lt_length_of_mem a3
  rw [←a4] at hk
  have hSk:S.getD k []=aftA L N ms (S.getD j []) a:=by
   rw [getD_lt hk]
   have:=List.getElem_idxOf (x:=aftA L N ms (S.getD j []) a) (xs:=S) (by rw [←a4];exact hk)
   simpa only [←a4] using this
  refine ⟨by omega,fun t=>?_⟩
  show (t:Int)∈S.getD k []↔_
  rw [hSk]
  exact (aftA_ok L N ms hm hL _ (h.fits _ (h.mem hj)) a).2.2.2.1 t
 ·obtain ⟨ac,h1,h2,h3,h4,h5⟩:=h.good j hj
  have hin:a∈ac:=(h2 a).2 ⟨ha,(aftA_some L N ms hm hL _ (h.fits _ (h.mem hj)) a).2 ⟨t,ht⟩⟩
  have hin2:(⟨a,((S.idxOf (aftA L N ms (S.getD j []) a):Nat):Int)⟩:Move)∈rows[j]:=by rw [h5];exact List.mem_map_of_mem hin
  obtain ⟨i,hi,e⟩:=List.mem_iff_getElem.1 hin2
  exact ⟨_,hj,i,hi,by rw [e],by rw [e]⟩
theorem sureGraph_in (L N:Nat) (g:Graph) (hg:g.moves.length+gsize g.moves≤1048576) (hL:8589934592≤L):
  ∃(rows:List (List Move)) (ok:Bool),f18 L N g=some (sgOut rows,ok)∧rows.length+gsize rows≤1048576∧rows.length≤60∧(∀r∈rows,r.length≤540)∧
   (ok=true→graphOk g=true∧graphOk ⟨rows⟩=true∧∃S,SureIn L N g.moves S rows∧SureOf g.moves rows fun j t=>(t:Int)∈S.getD j [])∧(ok=false→rows=[]):=by
 obtain ⟨rows,ok,h2,h3,h4,h5,h6,h7⟩:=sureGraph_eq L N g hg hL
 refine ⟨rows,ok,h2,h3,h4,h5,fun hok=>?_,h7⟩
 obtain ⟨g1,S,s1,s2,s3,s4,s5,s6⟩:=h6 hok
 have hin:SureIn L N g.moves S rows:=⟨s1,s2,s3,s4,s5,s6⟩
 exact ⟨g1,hin.graph h4,S,hin,hin.of (leads_of g1 hg) hL⟩
end Go.Proofs.YtfdcjocallblcaaGreatDoor.Ev
namespace Go.Proofs.YtfdcjocallblcaaGreatDoor.Ev
open Go
set_option linter.unusedVariables false
set_option linter.unusedSimpArgs false
structure DuoAt (ms ns:List (List Move)) (k:Nat) (d:Duo):Prop where
 len:d.w.length≤k
 seen:∀a∈d.w,a≠0
 a:Row ms d.a (BehW ms d.w)
 b:Row ns d.b (BehW ns d.w)
 does:∃t,BehW ms d.w t
theorem DuoAt.mono {ms ns:List (List Move)} {k l:Nat} {d:Duo} (h:DuoAt ms ns k d) (hkl:k≤l):DuoAt ms ns l d:=⟨Nat.le_trans h.len hkl,h.seen,h.a,h.b,h.does⟩
theorem row_key {ms:List (List Move)} (hm:Leads ms) {q:List Int} {X:Nat→Prop} (h:Row ms q X):q.length≤60∧∀v∈q,0≤v∧v<60:=by
 have hn:=hm.1
 have h1:=h.1
 exact ⟨by omega,fun v hv=>by have:=h.2.1 v hv;omega⟩
theorem keyB_size60 {q:List Int} (h:q.length≤60):(keyB q).size≤400:=by
 unfold keyB
 rw [ba_size]
 have:∀l:List Int,(numsL l).length≤3*l.length:=by
  intro l
  induction l with
  |nil=>simp [numsL]
  |cons a l ih=>
   have h1:=digL_len a.toNat
   have h2:numsL (a::l)=digL a.toNat++[32]++numsL l:=by unfold numsL;rw [List.flatMap_cons]
   rw [h2];simp;omega
 have:=this q
 unfold keyL
 simp;omega
section
variable (L N : Nat)
theorem apart_in {R:Type} (ms ns:List (List Move)) (hm:Leads ms) (hn:Leads ns) (hL:8589934592≤L) (hsame:∀w,(∀a∈w,a≠0)→(∃t,BehW ms w t)→∃u,BehW ns w u)
  (K:Int→Int→Bool→List (List Move)→List (List Move)→List Duo→List (ByteArray×Bool)→Option R) (Kr Kr1:Int→Bool→Int→Bool→List (List Move)→List (List Move)→List Duo→List (ByteArray×Bool)→List Int→Option R)
  (most k:Int) (kk:Nat) (hkk:kk≤1000) (q r w:List Int) (hd:DuoAt ms ns kk ⟨q,r,w⟩) (ac:List Int) (hac:∀a∈ac,a≠0∧∃t,StepX ms (BehW ms w) a t) (hal:ac.length≤100000000):
  ∀(n j:Nat) (ds:List Duo) (es:List (ByteArray×Bool)),j≤ac.length→ac.length-j<n→(∀e∈ds,DuoAt ms ns (kk+1) e)→ds.length≤1000000+j→
   ∃ds' es',f47_1.l1 L N K Kr Kr1 n most k ac (ac.length:Int) (j:Int) false ms ns q r w ds es=K most k false ms ns ds' es'∧(∀e∈ds',DuoAt ms ns (kk+1) e)∧ds.length≤ds'.length:=by
 have hlim:=lim_eq
 intro n
 induction n with
 |zero=>intro j ds es _ h;omega
 |succ n ih=>
  intro j ds es hj hjn hds hdl
  have hu:f47_1.l1 L N K Kr Kr1 (n+1) most k ac (ac.length:Int) (j:Int) false ms ns q r w ds es=f47_1.s1 L N K Kr Kr1 (f47_1.l1 L N K Kr Kr1 n) most k ac (ac.length:Int) (j:Int) false ms ns q r w ds es:=rfl
  rw [hu]
  unfold f47_1.s1 f47_1.s1'
  by_cases hlt:j<ac.length
  ·obtain ⟨ha0,t,ht⟩:=hac _ (List.getElem_mem hlt)
   obtain ⟨q',e1,e2⟩:=after_row L N ms q _ ac[j] hm hd.a (by omega)
   obtain ⟨r',f1,f2⟩:=after_row L N ns r _ ac[j] hn hd.b (by omega)
   have hseen:∀a∈w++[ac[j]],a≠0:=fun a ha=>by
    rcases List.mem_append.1 ha with h|h
    ·exact hd.seen a h
    ·rw [List.mem_singleton.1 h];exact ha0
   have hq':Row ms q' (BehW ms (w++[ac[j]])):=⟨e2.1,e2.2.1,fun t=>(e2.2.2.1 t).trans Beh.snoc.symm,e2.2.2.2⟩
   have hr':Row ns r' (BehW ns (w++[ac[j]])):=⟨f2.1,f2.2.1,fun t=>(f2.2.2.1 t).trans Beh.snoc.symm,f2.2.2.2⟩
   have hdoes:∃t,BehW ms (w++[ac[j]]) t:=⟨t,Beh.snoc.2 (.base t ht)⟩
   have hpos:0<r'.length:=hr'.some.2 (hsame _ hseen hdoes)
   have hz:((r'.length:Int)==0)=false:=beq_eq_false_iff_ne.2 (by omega)
   have hwl:=hd.len
   have hwl:w.length≤kk:=hwl
   have hcl:fclone w=some ():=by unfold fclone;rw [dt (by omega)];rfl
   have hl1:decide (w.length+([ac[j]]:List Int).length≤lim)=true:=dt (by simp only [List.length_cons,List.length_nil];omega)
   have k1:=row_key hm hq'
   have k2:=row_key hn hr'
   have hk1:=setKey_ok L N _ k1.1 k1.2 (by omega)
   have hk2:=setKey_ok L N _ k2.1 k2.2 (by omega)
   have hs1:=keyB_size60 k1.1
   have hs2:=keyB_size60 k2.1
   have hl2:decide ((keyB q').size+(keyB r').size≤4611686018427387904)=true:=dt (by omega)
   have hl3:decide (ds.length+([Duo.mk q' r' (w++[ac[j]])]:List Duo).length≤lim)=true:=dt (by simp only [List.length_cons,List.length_nil];omega)
   simp only [lt_cast hlt,le0,cond_true,Bool.and_true,Int.toNat_natCast,at_lt hlt,e1,f1,Option.bind_some,hcl,hl1,hz,cond_false,hk1,hk2,hl2,hl3]
   rw [wi_nat (by omega)]
   cases ((mapFind .str .bool (keyB q'++keyB r') es).getD (Ty.dflt .bool)) with
   |true=>rw [cond_true];exact ih (j+1) ds es (by omega) (by omega) hds (by omega)
   |false=>
    rw [cond_false]
    obtain ⟨ds',es',g1,g2,g3⟩:=ih (j+1) (ds++[Duo.mk q' r' (w++[ac[j]])]) (mapPut .str .bool (keyB q'++keyB r') true es) (by omega) (by omega) (fun e he=>by
     rcases List.mem_append.1 he with h|h
     ·exact hds e h
     ·rw [List.mem_singleton.1 h]
      exact ⟨by show (w++[ac[j]]).length≤_;simp;omega,hseen,hq',hr',hdoes⟩) (by simp;omega)
    exact ⟨ds',es',g1,g2,by simp at g3;omega⟩
  ·rw [ge_cast hlt,cond_false]
   exact ⟨ds,es,rfl,hds,Nat.le_refl _⟩
theorem apart_duos (ms ns:List (List Move)) (hm:Leads ms) (hn:Leads ns) (h1:1≤ms.length) (h2:1≤ns.length) (hL:8589934592≤L) (hsame:∀w,(∀a∈w,a≠0)→(∃t,BehW ms w t)→∃u,BehW ns w u):
  ∃o,f47_1 L N false ⟨ms⟩ ⟨ns⟩ 20=some (o,false):=by
 have hlim:=lim_eq
 have key:∀(d k:Nat) (ds:List Duo) (es:List (ByteArray×Bool)),k≤400→401≤k+d→k≤ds.length→(∀e∈ds,DuoAt ms ns k e)→∀n,d≤n→
   ∃o,f47_1.l0 L N (fun z11=>f47_1.p0_e0 L N (fun a0 a1=>some (a0,a1)) z11) (fun z12 z13=>f47_1.p0_r L N (fun a0 a1=>some (a0,a1)) z12 z13) (fun z37 z38 z39=>f47_1.p0_r1 L N (fun a0 a1=>some (a0,a1)) z37 z38 z39) (fun z139 z140=>f47_1.p0_r2 L N (fun a0 a1=>some (a0,a1)) z139 z140) n 20 (k:Int) false ms ns ds es=some (o,false):=by
  intro d
  induction d with
  |zero=>intro k ds es hk hd;omega
  |succ d ih=>
   intro k ds es hk hd hkl hds n hn'
   obtain ⟨n,rfl⟩:∃n',n=n'+1:=⟨n-1,by omega⟩
   show ∃o,f47_1.s0 L N _ _ _ _ (f47_1.l0 L N (fun z11=>f47_1.p0_e0 L N (fun a0 a1=>some (a0,a1)) z11) (fun z12 z13=>f47_1.p0_r L N (fun a0 a1=>some (a0,a1)) z12 z13) (fun z37 z38 z39=>f47_1.p0_r1 L N (fun a0 a1=>some (a0,a1)) z37 z38 z39) (fun z139 z140=>f47_1.p0_r2 L N (fun a0 a1=>some (a0,a1)) z139 z140) n) 20 (k:Int) false ms ns ds es=some (o,false)
   unfold f47_1.s0 f47_1.s0'
   by_cases hlt:k<ds.length
   ·by_cases h400:ds.length>400
    ·simp only [lt_cast hlt,le0,Bool.and_true,cond_true]
     rw [dt (show (ds.length:Int)>400 by omega),cond_true]
     exact ⟨false,rfl⟩
    ·have hdk:=hds _ (List.getElem_mem hlt)
     have hpos:0<(ds[k]).b.length:=hdk.b.some.2 (hsame _ hdk.seen hdk.does)
     have hz:(((ds[k]).b.length:Int)==0)=false:=beq_eq_false_iff_ne.2 (by omega)
     have hlist:listAt ds (Ty.dflt (.st 4)) k=ds[k]:=at_lt hlt
     have hd1:decide ((ds.length:Int)>400)=false:=df (by omega)
     have hnext:∀e∈ds,DuoAt ms ns (k+1) e:=fun e he=>(hds e he).mono (by omega)
     simp only [lt_cast hlt,le0,Bool.and_true,cond_true,hd1,cond_false,Int.toNat_natCast,hlist,hz]
     cases hw:(((ds[k]).w.length:Int)==20) with
     |true=>
      rw [cond_true,wi_nat (by omega)]
      exact ih (k+1) ds es (by omega) (by omega) (by omega) hnext n (by omega)
     |false=>
      rw [cond_false]
      obtain ⟨ac,a1,a2,a3,a4⟩:=actsOf_ok L N ms hm (ds[k]).a _ hdk.a (by omega)
      rw [a1,Option.bind_some]
      obtain ⟨ds',es',g1,g2,g3⟩:=apart_in L N ms ns hm hn hL hsame (fun z54 z55 z56 z57 z58 z59 z60=>f47_1.p1_e2 L N (fun z11=>f47_1.p0_e0 L N (fun a0 a1=>some (a0,a1)) z11) (fun z12 z13=>f47_1.p0_r L N (fun a0 a1=>some (a0,a1)) z12 z13) (fun z37 z38 z39=>f47_1.p0_r1 L N (fun a0 a1=>some (a0,a1)) z37 z38 z39) (fun z139 z140=>f47_1.p0_r2 L N (fun a0 a1=>some (a0,a1)) z139 z140) (f47_1.l0 L N (fun z11=>f47_1.p0_e0 L N (fun a0 a1=>some (a0,a1)) z11) (fun z12 z13=>f47_1.p0_r L N (fun a0 a1=>some (a0,a1)) z12 z13) (fun z37 z38 z39=>f47_1.p0_r1 L N (fun a0 a1=>some (a0,a1)) z37 z38 z39) (fun z139 z140=>f47_1.p0_r2 L N (fun a0 a1=>some (a0,a1)) z139 z140) n) z54 z55 z56 z57 z58 z59 z60) _ _
       20 (k:Int) k (by omega) (ds[k]).a (ds[k]).b (ds[k]).w hdk ac (fun a ha=>(a4 a).1 ha) a3 L 0 ds es (by omega) (by omega) hnext (by omega)
      obtain ⟨o,f⟩:=ih (k+1) ds' es' (by omega) (by omega) (by omega) g2 n (by omega)
      refine ⟨o,(show _=_ from g1).trans ?_⟩
      show f47_1.p1_e2 L N _ _ _ _ _ 20 (k:Int) false ms ns ds' es'=_
      unfold f47_1.p1_e2 f47_1.p1_e2'
      rw [wi_nat (by omega)]
      exact f
   ·rw [ge_cast hlt,cond_false]
    exact ⟨true,rfl⟩
 obtain ⟨q,b1,b2⟩:=behI L N ms [] hm h1 (by simp) (by omega)
 obtain ⟨r,c1,c2⟩:=behI L N ns [] hn h2 (by simp) (by omega)
 have k1:=row_key hm b2
 have k2:=row_key hn c2
 have hk1:=setKey_ok L N _ k1.1 k1.2 (by omega)
 have hk2:=setKey_ok L N _ k2.1 k2.2 (by omega)
 have hs1:=keyB_size60 k1.1
 have hs2:=keyB_size60 k2.1
 have hl2:decide ((keyB q).size+(keyB r).size≤4611686018427387904)=true:=dt (by omega)
 have hz:(decide ((0:Int)≤0)&&decide ((0:Int)<(([Duo.mk q r []]:List Duo).length:Int)))=true:=rfl
 have hla:listAt [Duo.mk q r []] (Ty.dflt (.st 4)) (0:Int).toNat=Duo.mk q r []:=rfl
 obtain ⟨o,f⟩:=key 401 0 [Duo.mk q r []] (mapPut .str .bool (keyB q++keyB r) true []) (by omega) (by omega) (by simp) (fun e he=>by
  rw [List.mem_singleton.1 he]
  exact ⟨by simp,fun a h=>(by cases h),b2,c2,⟨0,.base 0 rfl⟩⟩) L (by omega)
 refine ⟨o,?_⟩
 show f47_1.b L N (fun a0 a1=>some (a0,a1)) false ⟨ms⟩ ⟨ns⟩ 20=_
 unfold f47_1.b f47_1.b'
 have b1':f42 L N (Graph.mk (Graph.mk ms).moves) []=some q:=b1
 have c1':f42 L N (Graph.mk (Graph.mk ns).moves) []=some r:=c1
 rw [b1',Option.bind_some,c1',Option.bind_some,hz,cond_true,hla,hk1,Option.bind_some,cond_true,hk2,Option.bind_some,hl2,cond_true]
 exact f
theorem apart_none (g h:Graph) (hg:g.moves.length+gsize g.moves≤1048576) (hh:h.moves.length+gsize h.moves≤1048576) (hL:8589934592≤L) (hsame:∀w,(∀a∈w,a≠0)→(∃t,BehW g.moves w t)→∃u,BehW h.moves w u):
  f19 L N g h=some ([],false):=by
 have hge:Graph.mk g.moves=g:=by cases g;rfl
 have hhe:Graph.mk h.moves=h:=by cases h;rfl
 have hok:=gok1_ok L N g (by omega) hg
 have hok2:=gok1_ok L N h (by omega) hh
 show f19.b' L N (fun a0 a1=>some (a0,a1)) g h=_
 unfold f19.b'
 rw [hge,hhe,hok,Option.bind_some,hok2,Option.bind_some]
 cases h1:graphOk g with
 |false=>rfl
 |true=>
  rw [Bool.not_true,cond_false]
  cases h2:graphOk h with
  |false=>rfl
  |true=>
   rw [Bool.not_true,cond_false]
   unfold f19.j0'
   obtain ⟨o,e⟩:=apart_duos L N g.moves h.moves (leads_of h1 hg) (leads_of h2 hh) (graphOk_mv h1).1 (graphOk_mv h2).1 hL hsame
   rw [e,Option.bind_some]
   cases o<;>rfl
end
end Go.Proofs.YtfdcjocallblcaaGreatDoor.Ev
namespace Go.Proofs.YtfdcjocallblcaaGreatDoor.Ev
open Go
set_option linter.unusedVariables false
set_option linter.unusedSimpArgs false
def trues (c:List Bool):List Int:=((List.range c.length).filter fun i=>c.getD i false).map fun (i:Nat)=>(i:Int)
theorem trues_len (c:List Bool):(trues c).length≤c.length:=by
 unfold trues
 rw [List.length_map]
 exact Nat.le_trans (List.length_filter_le _ _) (by simp)
def truesTo (c:List Bool) (i:Nat):List Int:=((List.range i).filter fun i=>c.getD i false).map fun (i:Nat)=>(i:Int)
theorem truesTo_succ (c:List Bool) (i:Nat):truesTo c (i+1)=truesTo c i++(bif c.getD i false then [(i:Int)] else []):=by
 unfold truesTo
 rw [List.range_succ,List.filter_append,List.map_append]
 congr 1
 cases h:c.getD i false<;>simp only [List.filter_cons,List.filter_nil,h]<;>rfl
theorem truesTo_len (c:List Bool) (i:Nat):(truesTo c i).length≤i:=by
 unfold truesTo
 rw [List.length_map]
 exact Nat.le_trans (List.length_filter_le _ _) (by simp)
theorem formWhere1_ok (L N:Nat) (g:Graph) (t:Tree) (hL:1048577<L) (hg:g.moves.length+gsize g.moves≤1048576) (hN:nodes t≤N) (ht:nodes t≤1048577) (hT:TOk t):
  f16 L N g t=some (bif graphOk g&&(decide (nodes t≤60)&&shape t) then trues (fw g.moves t) else []):=by
 have hlim:=lim_eq
 have hge:Graph.mk g.moves=g:=by cases g;rfl
 show f16.b L N some g t=_
 unfold f16.b f16.b'
 rw [hge,gok1_ok L N g (by omega) hg]
 simp only [Option.bind_some,mk_eta,formOk_ok L N t hN (by omega) (by omega) hT]
 cases hgk:graphOk g
 ·rfl
 ·cases hf:(decide (nodes t≤60)&&shape t)
  ·rfl
  ·simp only [Bool.not_true,cond_false,Bool.and_true,cond_true]
   unfold f16.j0'
   rw [Bool.and_eq_true] at hf
   have hm:=leads_of hgk hg
   have hn:=hm.1
   rw [mk_eta,formIn_ok L N g.moves hm (by omega) N t hN (by omega) hf.2]
   simp only [Option.bind_some]
   generalize hc:fw g.moves t=c
   have hcl:c.length=g.moves.length:=by rw [←hc];exact fw_len _ _
   have key:∀(n i:Nat),i≤c.length→c.length-i<n→f16.l0 L N (fun z18=>f16.p0_e0 L N some z18) n c (c.length:Int) (i:Int) (truesTo c i)=some (trues c):=by
    intro n
    induction n with
    |zero=>intro i _ h;omega
    |succ n ih=>
     intro i hi hin
     show f16.s0 L N _ (f16.l0 L N _ n) c (c.length:Int) (i:Int) (truesTo c i)=_
     unfold f16.s0 f16.s0'
     by_cases hlt:i<c.length
     ·have hl:=truesTo_len c i
      have hs:=truesTo_succ c i
      have hle:decide ((truesTo c i).length+([(i:Int)]:List Int).length≤lim)=true:=dt (by simp only [List.length_cons,List.length_nil];omega)
      simp only [lt_cast hlt,le0,Bool.and_true,cond_true,Int.toNat_natCast,atD,hle,wi_nat (show i<9223372036854775807 by omega)]
      cases hb:c.getD i false
      ·rw [hb] at hs
       simp only [cond_false,List.append_nil] at hs⊢
       rw [←hs];exact ih (i+1) (by omega) (by omega)
      ·rw [hb] at hs
       simp only [cond_true] at hs⊢
       rw [←hs];exact ih (i+1) (by omega) (by omega)
     ·simp only [ge_cast hlt,cond_false]
      have hi':i=c.length:=by omega
      subst hi'
      rfl
   exact key L 0 (by omega) (by omega)
end Go.Proofs.YtfdcjocallblcaaGreatDoor.Ev
namespace Go.Proofs.YtfdcjocallblcaaGreatDoor.Ev
open Go
set_option linter.unusedVariables false
set_option linter.unusedSimpArgs false
theorem trues_inW (c:List Bool) (t:Nat):(t:Int)∈trues c↔c.getD t false=true:=by
 have key:∀n,(t:Int)∈truesTo c n↔t<n∧c.getD t false=true:=by
  intro n
  induction n with
  |zero=>simp [truesTo]
  |succ n ih=>
   rw [truesTo_succ,List.mem_append,ih]
   cases hc:c.getD n false with
   |true=>
    rw [cond_true,List.mem_singleton]
    constructor
    ·rintro (⟨h1,h2⟩|h)
     ·exact ⟨by omega,h2⟩
     ·obtain rfl:t=n:=by omega
      exact ⟨by omega,hc⟩
    ·rintro ⟨h1,h2⟩
     by_cases e:t=n
     ·exact .inr (by rw [e])
     ·exact .inl ⟨by omega,h2⟩
   |false=>
    rw [cond_false]
    constructor
    ·rintro (⟨h1,h2⟩|h)
     ·exact ⟨by omega,h2⟩
     ·cases h
    ·rintro ⟨h1,h2⟩
     by_cases e:t=n
     ·rw [e,hc] at h2;cases h2
     ·exact .inl ⟨by omega,h2⟩
 refine (key c.length).trans ⟨fun h=>h.2,fun h=>⟨?_,h⟩⟩
 apply Classical.byContradiction
 intro h2
 rw [List.getD_eq_getElem?_getD,List.getElem?_eq_none (by omega)] at h
 cases h
theorem apart_nil1 (L N:Nat) (hL:8589934592≤L) (g:Graph) (hg:g.moves.length+gsize g.moves≤1048576):f19 L N g ⟨[]⟩=some ([],false):=by
 have hge:∀g:Graph,Graph.mk g.moves=g:=fun g=>by cases g;rfl
 have h1:=gok1_ok L N g (by omega) hg
 have h2:f6 L N ⟨[]⟩=some false:=gok1_ok L N ⟨[]⟩ (by omega) (by simp [gsize])
 show f19.b' L N (fun a0 a1=>some (a0,a1)) g ⟨[]⟩=_
 unfold f19.b'
 rw [hge,hge,h1,h2]
 cases graphOk g<;>rfl
theorem apart_nil2 (L N:Nat) (hL:8589934592≤L) (g:Graph):f19 L N ⟨[]⟩ g=some ([],false):=by
 have h2:f6 L N (Graph.mk (Graph.mk []).moves)=some false:=gok1_ok L N ⟨[]⟩ (by omega) (by simp [gsize])
 show f19.b' L N (fun a0 a1=>some (a0,a1)) ⟨[]⟩ g=_
 unfold f19.b'
 rw [h2];rfl
theorem lawGraphWhole (n:Int) (_:DatOk (.int .i64) n) (xs:List Int) (_:DatOk (.sl (.int .i64)) xs) (s:Int) (_:DatOk (.int .i64) s) (t:Int) (_:DatOk (.int .i64) t):∃L N,f3 L N n xs s t=some true:=by
 generalize hLL:8589934592=L
 generalize hNN:20000=N
 refine ⟨L,N,?_⟩
 have hlim:=lim_eq
 have hge:∀g:Graph,Graph.mk g.moves=g:=fun g=>by cases g;rfl
 show f3.b L N some n xs s t=_
 unfold f3.b f3.b'
 by_cases hl:(xs.length:Int)>2147483647
 ·rw [dt hl,cond_true]
 ·rw [df hl,cond_false]
  obtain ⟨rows,d1,d2,d3⟩:=graphBy_ok L N (by omega) n xs (by omega)
  generalize hG:Graph.mk rows=g at d1
  have hgm:g.moves=rows:=by rw [←hG]
  have hsz:g.moves.length+gsize g.moves≤2147483900:=by rw [hgm];omega
  obtain ⟨q,a1,a2,a3,a4,a5⟩:=alikeW L N (by omega) g hsz
  have g1:=gok1_big L N g (by omega) (by omega)
  have g2:=gok2_big L N g (by omega) (by omega)
  obtain ⟨F,c,t1,t2,t3⟩:=tellsW L N (by omega) (by omega) g s t hsz
  have tau:f10 L N (0:Int)=some (ByteArray.mk #[116,97,117]):=by
   show f10.b' L N some (0:Int)=_
   unfold f10.b'
   rw [act1_ok,Option.bind_some];rfl
  rw [d1]
  simp only [Option.bind_some,hge,a1,g1,g2,a2,mnInts_same L N q (by omega) (by omega),tau,beq_self_eq_true,Bool.not_true,cond_false]
  unfold f3.j2'
  simp only [hge,t1,Option.bind_some]
  cases hok:graphOk g with
  |false=>
   rw [Bool.not_false,cond_true,t2 hok,Bool.not_false,cond_true,a4 hok];rfl
  |true=>
   have hsm:=(ok_small hok).2
   have hm:=leads_of hok hsm
   have hn:=hm.1
   obtain ⟨b,b1,b2,-,b4⟩:=branchClassesI L N g hsm (by omega)
   obtain ⟨bp,b5,b6⟩:=b4 hok
   obtain ⟨wr,wp,w,w1,w2,w3,w4,w5⟩:=weakClassesI L N g hsm (by omega) hok
   obtain ⟨ap,a6,a7,a8⟩:=a5 hok
   obtain ⟨fr,v1,v2⟩:=graphFold_ok L N g hsm (by omega)
   obtain ⟨fp,fq,-,v3,v4,v5,-,-⟩:=v2 hok
   have hfq:fq=q:=by rw [a8] at v4;exact (Option.some.inj v4).symm
   subst hfq
   have hql:=a7.1
   have hbl:=b6.1
   have hfine1:f15 L N fq b=some true:=mnFiner_ok L N fq b (by omega) (fun i j hi hj e=>alike_branch hm a7 b5 (by omega) (by omega) e) (by omega) (by omega)
   have hfine2:f15 L N b w=some true:=mnFiner_ok L N b w (by omega) (fun i j hi hj e=>branch_weak hm w3.weak.1 (fun j hj m=>w3.weak.2 j hj m) b6 w4 (by omega) (by omega) e) (by omega) (by omega)
   have hcount:fr.length=(leastTo fq fq.length).length:=by rw [hql];exact v5.len
   rw [Bool.not_true,cond_false]
   simp only [b1,w1,Option.bind_some]
   have hend:f3.j0' L N some g.moves=some true:=by
    unfold f3.j0'
    obtain ⟨rows',ok,s2,s3,s4,s5,s6,s7⟩:=sureGraph_in L N g hsm (by omega)
    have hso:sgOut rows'=⟨rows'⟩:=rfl
    rw [hso] at s2
    simp only [hge,s2,Option.bind_some]
    cases ok with
    |false=>
     have he:=s7 rfl
     subst he
     rw [apart_nil1 L N (by omega) g hsm,apart_nil2 L N (by omega) g];rfl
    |true=>
     obtain ⟨-,k2,S,hin,hof⟩:=s6 rfl
     have h1:=apart_none L N g ⟨rows'⟩ hsm s3 (by omega) fun w hw=>(hof.same w hw).1
     have h2:=apart_none L N ⟨rows'⟩ g s3 hsm (by omega) fun w hw=>(hof.same w hw).2
     rw [h1,h2];rfl
   have hj1:f3.j1' L N some s t c g.moves F.op F.n F.parts fq=some true:=by
    unfold f3.j1'
    cases hc:c with
    |false=>exact hend
    |true=>
     obtain ⟨hF,hsh,i,j,rfl,rfl,hi,hj,h1,h2,h3⟩:=t3 hc
     have htok:=shape_tok _ F (Nat.le_refl _) hsh
     have k1:=formWhere1_ok L N g F (by omega) hsm (by omega) (by omega) htok
     rw [hok,hsh,dt hF] at k1
     have hne:=h3 fq a8
     have hxl:(trues (fw g.moves F)).length≤60:=by
      have:=trues_len (fw g.moves F)
      rw [fw_len] at this
      omega
     have k2:=mnHas_ok L N (trues (fw g.moves F)) (i:Int) (by omega) (by omega)
     have k3:=mnHas_ok L N (trues (fw g.moves F)) (j:Int) (by omega) (by omega)
     rw [dt ((trues_inW _ _).2 h1)] at k2
     rw [df (fun h=>by have h2':=(trues_inW _ _).1 h;unfold hold at h2;rw [h2] at h2';cases h2')] at k3
     have hiq:i<fq.length:=by omega
     have hjq:j<fq.length:=by omega
     have hb:(fq.getD i 0==fq.getD j 0)=false:=beq_eq_false_iff_ne.2 hne
     simp only [hge,mk_parts,k1,Option.bind_some,Bool.and_true,Bool.true_and,cond_true,le0,lt_cast hiq,lt_cast hjq,Int.toNat_natCast,atD,hb,cond_false,k2,k3,Bool.not_true]
     exact hend
   have hK:=whole_count L N (fun z34 z35 z36 z37 z38 z39 z40 z41 z42 z43 z44=>f3.p0_e0 L N some z34 z35 z36 z37 z38 z39 z40 z41 z42 z43 z44) s t c g.moves F.op F.n F.parts fq b w (by omega) L 0 (by omega) (by omega)
   refine (show _=_ from hK).trans ?_
   show f3.p0_e0' L N some s t c _ g.moves F.op F.n F.parts fq b w=_
   unfold f3.p0_e0'
   rw [hok] at v1
   simp only [hge,v1,Option.bind_some,hfine1,hfine2,Bool.not_true,cond_false]
   rw [←hcount,bne_self_eq_false,cond_false]
   exact hj1
end Go.Proofs.YtfdcjocallblcaaGreatDoor.Ev
